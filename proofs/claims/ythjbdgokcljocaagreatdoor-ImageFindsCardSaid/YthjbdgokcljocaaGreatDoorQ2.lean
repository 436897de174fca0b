/- Texts of mine, laid together: LmVj LmVk LmVl LmVlz LmVka LmVm LmVn LmVnb LmVnc LmVnd LmVne LmVo LmVp LmVq LmVr LmVs LmVt LmVu LmVv LmVw LmVx. -/
import Derived.Test.YthjbdgokcljocaaGreatDoorQ1
import Derived.Lib.AppendStr
import Derived.Great.BuildSlice
import Derived.OrdersIn
import Derived.TacticsIn
import Derived.RangeFuncCalls
set_option linter.unusedVariables false
open Array renaming getElem?_eq_some_iff → aO, getElem?_eq_getElem → eE, getD_eq_getD_getElem? → kr, getElem?_append_left → qB
open Bool renaming and_eq_true → ao, not_eq_true' → cY, false_eq_true → dQ, false_and → eO, false_or → eW, or_eq_true → kq
open Int renaming le_refl → bh
open List renaming length_append → af, getElem?_eq_getElem → aq, replicate → au, length_cons → av, getElem?_eq_some_iff → aw, length_singleton → aE, length_take → aF, mem_cons_of_mem → aI, take_of_length_le → aL, append_assoc → aM, mem_cons_self → aN, length_drop → aR, mem_singleton → aU, mem_append → aV, length_replicate → aX, length_nil → aY, append_nil → bf, mem_cons → bm, all_eq_true → bo, mem_map → bp, eq_nil_of_length_eq_zero → bB, getElem?_append_right → bD, getElem?_append_left → bF, take_append_drop → bK, drop_eq_getElem_cons → bM, range → bQ, length_map → bT, mem_append_left → bW, map_cons → cw, getD_eq_getElem?_getD → dh, getElem?_map → dj, flatten_cons → dz, getElem_mem → dA, mem_range → dF, cons_append → eH, drop_eq_nil_of_le → eJ, nodup_cons → gj, mem_filter → gk, nodup_append → gv, nil_append → gS, getElem?_eq_none → gU, map_append → jb, length_set → jc, map_congr_left → jy, flatten_append → jz, mem_of_getElem? → kz, filter_eq_self → lr, drop_take → lQ, getElem?_take → mT, drop_zero → o9, flatMap_cons → pd
open Nat renaming eq_of_beq_eq_true → ai, le_refl → aG, zero_le → cM, lt_or_ge → eT, le_of_ble_eq_true → eU, zero_add → gA, blt → gH, add_mul → gR, mul_le_mul_right → kx
open Option renaming isSome_iff_exists → mS
open Option.some renaming inj → aj
open UInt8 renaming ofNat → az
noncomputable section
namespace Go.Lm
open Go Go.RowKit
section
variable {X:Vx} {n:Nat} {W:cV} {F:List Atom} {b:Bs} {E:Env} {g w:World} {s:Ov} {a:Act} {o:Oper}
set_option maxHeartbeats 1000000 in
theorem YC {α:Type} {L vs:List α} {p m:Nat} (h1:p+vs.length<=m) (h2:m<=L.length):(L.take p++vs++L.drop (p+vs.length)).take m=(L.take m).take p++vs++(L.take m).drop (p+vs.length):=by
 grind [List.take_append, af, lQ]
theorem xl {size:Nat} {vs:List Value}:∀ (cs:List (List Value)) (i off:Nat),(∀ x∈cs,x.length=size)->off+vs.length<=size->∀ (hi:i< cs.length),(cs.set i ((cs[i]).take off++vs++(cs[i]).drop (off+vs.length))).flatten=cs.flatten.take (i*size+off)++vs++cs.flatten.drop (i*size+off+vs.length)
 | [],_,_,_,_,hi=>by grind
 | c::cs,0,off,hl,ho,_=>by
  grind
 | c::cs,i+1,off,hl,ho,hi=>by
  have h1:c.length=size:=hl c (by simp);have ih:=xl cs i off (λx hx=>hl x (aI _ hx)) ho (by simpa using hi);simp only [List.set_cons_succ,dz,List.getElem_cons_succ];rw [ih];have e1:(i+1)*size+off=c.length+(i*size+off):=by rw [gR];omega
  rw [e1,List.take_length_add_append,show c.length+(i*size+off)+vs.length=c.length+(i*size+off+vs.length) by omega,List.drop_length_add_append];simp
theorem SL.ai3 {α:Type} [aQ α] {P:Program} {e t:TypeId} {v c:Value} {xs:List α} {i:Int} {off:Nat} {x':α} {l:List Atom} (H:SL W g w (B6 e v xs::l)) (h0:0<=i) (h1:i< xs.length) (V5:off+c.cells.size<=aQ.size α) (ql:c.cells.toList.all (·.oneCell')=true) (uI:(P.info? t).map (·.size)=some c.cells.size)
  (hx:∀ cs,aQ.rel g cs (xs[i.toNat]'(by omega))->aQ.rel g (cs.take off++c.cells.toList++cs.drop (off+c.cells.toList.length)) x'):
  ∃ w',(Instr.storeAt t (nV (km (aQ.size α) v i) off) c).run P w= .ok () w'/\SL W g w' (B6 e v (xs.set i.toNat x')::l):=by
 obtain ⟨cs,r,H1⟩:=H.pD;have hlen:=eF.length r;rcases H1.ofRow with ⟨rfl,hn,_,_⟩| ⟨k,cap,cur,rfl,q1,q2,q3,q4,H2⟩;omega;have hi:i.toNat< xs.length:=by omega
 have hic:i.toNat< cs.length:=by omega
 have aag:i.toNat*aQ.size α+off+c.cells.size<=xs.length*aQ.size α:=by
  have:(i.toNat+1)*aQ.size α<=xs.length*aQ.size α:=kx _ hi;rw [gR] at this;omega
 have JL:xs.length*aQ.size α<=cap*aQ.size α:=kx _ q1;have jt:=kB (P:=P) (t:=t) (off:=i.toNat*aQ.size α+off) (v:=c) (H2.pc 0) uI ql (by omega);refine ⟨w.setRow k (cur.toList.take (i.toNat*aQ.size α+off)++c.cells.toList++cur.toList.drop (i.toNat*aQ.size α+off+c.cells.size)).toArray,?_,?_⟩
 .simp_all [nV, km, Addr.add_mid]
 .have mM:c.cells.size=c.cells.toList.length:=by simp
  have u:Xk w k (cur.toList.take (i.toNat*aQ.size α+off)++c.cells.toList++cur.toList.drop (i.toNat*aQ.size α+off+c.cells.size)).toArray (w.setRow k (cur.toList.take (i.toNat*aQ.size α+off)++c.cells.toList++cur.toList.drop (i.toNat*aQ.size α+off+c.cells.size)).toArray):=⟨rfl,(H2.pc 0).lt⟩;have H3:=H2.upd 0 u;have H4:=SL.wE (size:=aQ.size α) (cap:=cap) xs.length H3 q1 q2 (by simp;omega);have e2:((cur.toList.take (i.toNat*aQ.size α+off)++c.cells.toList++cur.toList.drop (i.toNat*aQ.size α+off+c.cells.size)).toArray.toList.take (xs.length*aQ.size α))=(cs.set i.toNat ((cs[i.toNat]).take off++c.cells.toList++(cs[i.toNat]).drop (off+c.cells.toList.length))).flatten:=by
   rw [xl (size:=aQ.size α) cs i.toNat off (λx hx=>eF.lens r x hx) (by rw [<-mM];exact V5) hic,<-q4,mM,List.toList_toArray];have Qq:cur.toList.length=cap*aQ.size α:=by simpa using q3
   exact YC (by omega) (by omega)
  rw [e2] at H4;have hlx:(xs.set i.toNat x').length=xs.length:=by simp
  refine SL.YG (cs:=cs.set i.toNat ((cs[i.toNat]).take off++c.cells.toList++(cs[i.toNat]).drop (off+c.cells.toList.length))) (r.set i.toNat _ (hx _ (r.at i.toNat hi hic))) ?_;rw [hlx];exact H4
theorem Cf (S:df n W F b E g w s a) {t:TypeId} {x y:Operand} {c:Cl} {v:S1} {K:Ov->Prop} (ho:o.op= .store t x y) (r:ck E g c (a.eval x)) (rv:dd E g (.v v) (a.eval y)) (h:BY X.P b s t c v K):
  ∃ w' s',(execOp a.eval o).run X.P w= .ok .skip w'/\df n W F b E g w' s' a/\K s':=by
 have hv:bz E g v.cells (a.eval y).cells.toList:=gr.cells rv;have ql:(a.eval y).cells.toList.all (·.oneCell')=true:=bo.2 hv.one;unfold BY at h;split at h;cases h
 .rename_i ie mN;split at h
  .rename_i mM;have hlen:(a.eval y).cells.size=ie.size:=by
    have:=hv.length;simp_all
   split at h
   .rename_i l off;obtain ⟨bb,hE,hx⟩:=r;split at h
    .rename_i ut cs eD;split at h
     .rename_i hle;obtain ⟨us,h1,h2,H⟩:=o5 S hE eD;have hl:off+(a.eval y).cells.size<=us.toArray.size:=by
       rw [hlen,List.size_toArray,h1.length];exact eU hle
      have hr:=kB (P:=X.P) (t:=t) h2 (by rw [mN,hlen];rfl) ql hl;refine ⟨_,_,by simp [execOp,ho,hx];rw [hr];rfl,S.back hE _ (bt.refl g) ?_,h⟩;have H2:=SL.zQ H ((⟨rfl,h2.lt⟩:Xk w bb (us.toArray.toList.take off++(a.eval y).cells.toList++us.toArray.toList.drop (off+(a.eval y).cells.size)).toArray _).BU h2);refine H2.cv λk ⟨k1,k2,ap,q,s1,s2⟩=>⟨k1,k2,ap,q,⟨bb,_,hE,xU h1 hv,?_⟩,s2⟩;have s1':k1 bb=some (.cells (us.toArray.toList.take off++(a.eval y).cells.toList++us.toArray.toList.drop (off+(a.eval y).cells.size)).toArray ut (0,0)):=s1;rw [s1'];simp
     .cases h
    .cases h
   .rename_i l sz i off;obtain ⟨u,hE,hx,_⟩:=r;split at h
    .rename_i ut e xs cc eD;split at h
     .rename_i hs;obtain ⟨h0,h1,h⟩:=h;rw [ao] at hs;split at h
      .rename_i x' hof;letI:=e.rep;have JJ:aQ.size e.den=e.size:=Ty.gw e;have hcv:ck E g cc (a.eval y):=rv;have fB:off< e.size:=by have:=hs.2;simpa using this
       have H:=j5 S hE eD;obtain ⟨w',h2,H2⟩:=SL.amz (α:=e.den) (P:=X.P) (t:=t) (x':=x') H h0 h1 (off:=off) (by rw [JJ];exact fB) hcv.one (nY hcv.one) (by rw [mN];exact congrArg some (ai mM).symm) λvs Ef=>by
        have e1:aA e xs i=xs[i.toNat]'(by omega):=by
         grind [aA]
        rw [<-e1] at Ef;obtain ⟨h4,_⟩:=ft E g e Ef;obtain ⟨u1,u2,e2,h5,h6⟩:=of_cells e hof (h4.set off hcv);rw [e2,show u2= [] from h6,bf];exact h5
       rw [JJ,ai hs.1] at h2;refine ⟨w',_,by simp [execOp,ho,hx,h2],S.back hE _ (bt.refl g) ?_,h⟩;exact H2.cv λk ⟨k1,k2,ap,q,s1,s2⟩=>⟨k1,k2,ap,q,⟨u,hE,s1⟩,s2⟩
      .cases h
     .cases h
    .rename_i ut e xs lc eD;split at h
     .rename_i hs;obtain ⟨h0,h1,h⟩:=h;rw [ao] at hs;split at h
      .rename_i x' hof;letI:=e.rep;have JJ:aQ.size e.den=e.size:=Ty.gw e;have Qq:(a.eval y).cells.size=lc.length:=by
        have h3:bz E g lc (a.eval y).cells.toList:=hv;have:=h3.length;rw [Array.length_toList] at this;exact this
       have fB:off+lc.length<=e.size:=eU hs.2;have H:=j5 S hE eD;obtain ⟨w',h2,H2⟩:=SL.ai3 (α:=e.den) (P:=X.P) (t:=t) (x':=x') (c:=a.eval y) H h0 h1 (off:=off) (by rw [JJ,Qq];exact fB) ql (by rw [mN,hlen];rfl) λvs Ef=>by
        have e1:aA e xs i=xs[i.toNat]'(by omega):=by
         grind [aA]
        rw [<-e1] at Ef;obtain ⟨h4,_⟩:=ft E g e Ef;have h5:=xU (off:=off) h4 hv;obtain ⟨u1,u2,e2,h5,h6⟩:=of_cells e hof h5;rw [show u2= [] from h6,bf] at e2;rw [aM,e2];exact h5
       rw [JJ,ai hs.1] at h2;refine ⟨w',_,by simp [execOp,ho,hx,h2],S.back hE _ (bt.refl g) ?_,h⟩;exact H2.cv λk ⟨k1,k2,ap,q,s1,s2⟩=>⟨k1,k2,ap,q,⟨u,hE,s1⟩,s2⟩
      .cases h
     .cases h
    .cases h
   .cases h
  .cases h
theorem aec {P:Program} {e:Ty} {te t:TypeId} {v c:Value} {xs:List e.den} {i:Int} {off:Nat} {l:List Atom} (H:SL W g w (pD e te v xs::l)) (h0:0<=i) (h1:i< xs.length) (V5:off< e.size) (vX:c.oneCell'=true) (TA:c.cells= #[c]) (Eg:∃ a n c',c= .slice a n c') (uI:(P.info? t).map (·.size)=some 1):
  ∃ w',(Instr.storeAt t (nV (km e.size v i) off) c).run P w= .ok () w'/\SL W g w' (sfA te e xs i off v c::l):=by
 letI:=e.rep;obtain ⟨cs,r,H1⟩:=SL.pD (α:=e.den) H;have hs:aQ.size e.den=e.size:=Ty.gw e;rw [hs] at H1;have hlen:=eF.length r;have hz:∀ x∈cs,x.length=e.size:=λx hx=>by rw [<-hs];exact eF.lens r x hx
 rcases H1.ofRow with ⟨rfl,hn,_,_⟩| ⟨k,cap,cur,rfl,q1,q2,q3,q4,H2⟩;omega;have hi:i.toNat< xs.length:=by omega
 have hic:i.toNat< cs.length:=by omega
 have aag:i.toNat*e.size+off< xs.length*e.size:=by
  have:(i.toNat+1)*e.size<=xs.length*e.size:=kx _ hi;rw [gR] at this;omega
 have JL:xs.length*e.size<=cap*e.size:=kx _ q1;have jt:=kB (P:=P) (t:=t) (off:=i.toNat*e.size+off) (v:=c) (H2.pc 0) (by rw [TA];exact uI) (by rw [TA];simp [vX]) (by rw [TA];simp;omega);refine ⟨w.setRow k (cur.toList.take (i.toNat*e.size+off)++c.cells.toList++cur.toList.drop (i.toNat*e.size+off+c.cells.size)).toArray,?_,?_⟩
 .have hp:nV (km e.size (.slice (some ⟨k,0,none⟩) xs.length cap) i) off=ptr k (i.toNat*e.size+off):=by
   show Value.pointer (some (((⟨k,0,none⟩:Addr).add (i.toNat*e.size)).add off))=_;rw [Go.Deep.add_add,Addr.add_mid,gA]
  rw [hp];exact jt
 .have e1:(cur.toList.take (i.toNat*e.size+off)++c.cells.toList++cur.toList.drop (i.toNat*e.size+off+c.cells.size))=cur.toList.set (i.toNat*e.size+off) c:=by
   rw [TA];rw [List.set_eq_take_append_cons_drop,if_pos (by simp;omega)];simp
  have u:Xk w k (cur.toList.set (i.toNat*e.size+off) c).toArray (w.setRow k (cur.toList.take (i.toNat*e.size+off)++c.cells.toList++cur.toList.drop (i.toNat*e.size+off+c.cells.size)).toArray):=⟨by rw [e1],(H2.pc 0).lt⟩;have H3:=H2.upd 0 u;have H4:=SL.wE (size:=e.size) (cap:=cap) xs.length H3 q1 q2 (by simp;omega);have e2:((cur.toList.set (i.toNat*e.size+off) c).toArray.toList.take (xs.length*e.size))=(cs.set i.toNat ((cs[i.toNat]).set off c)).flatten:=by
   rw [tB (size:=e.size) cs i.toNat off hz V5 hic,<-q4];simp only [List.take_set]
  rw [e2] at H4;refine H4.cv λhh ⟨k1,k2,ap,q,s1,s2⟩=>⟨k1,k2,ap,q,⟨_,s1,⟨λx hx=>?_,by rw [jc];exact hlen.1,h0,h1,V5⟩,⟨Eg,(cs[i.toNat]).set off c,by rw [List.getElem?_set_self hic],by rw [List.getElem?_set_self (by rw [hz _ (dA hic)];exact V5)]⟩,λg' m E cl Qq x' hof=>?_⟩,s2⟩
  .rcases List.mem_or_eq_of_mem_set hx with hx| rfl
   .exact hz x hx
   .rw [jc];exact hz _ (dA hic)
  .refine (eF.mono m r).set i.toNat _ ?_;have Ef:=(eF.mono m r).at i.toNat hi hic;have e3:aA e xs i=xs[i.toNat]:=by
    unfold aA;rw [dh,aq hi];rfl
   rw [<-e3] at Ef;obtain ⟨h4,_⟩:=ft E g' e Ef;obtain ⟨u1,u2,e4,h5,h6⟩:=of_cells e hof (h4.set off Qq);rw [e4,show u2= [] from h6,bf];exact h5
theorem Mn (S:df n W F b E g w s a) {t:TypeId} {x y:Operand} {l sz off q:Nat} {i:Int} {K:Ov->Prop} (ho:o.op= .store t x y) (r:ck E g (.oe l sz i off) (a.eval x)) (rv:dd E g (.c (.o q)) (a.eval y)) (h:B7 X.P b s t l sz i off q K):
  ∃ w' s',(execOp a.eval o).run X.P w= .ok .skip w'/\df n W F b E g w' s' a/\K s':=by
 unfold B7 at h;split at h
 .rename_i ie u e xs _ _ _ mN eD hoq;obtain ⟨hc,h0,h1,h⟩:=dc h;simp only [ao] at hc;obtain ⟨c1,c2,c3,c4⟩:=hc;obtain ⟨uv,hE,hx,_⟩:=r;have hcv:ck E g (.o q) (a.eval y):=rv;obtain ⟨w',h2,H2⟩:=aec (P:=X.P) (t:=t) (c:=a.eval y) (off:=off) (j5 S hE eD) h0 h1 (by simpa using c3) hcv.one (nY hcv.one) hcv.2 (by rw [mN];exact congrArg some (ai c1));rw [ai c2] at h2;refine ⟨w',_,by simp [execOp,ho,hx,h2],S.back hE _ (bt.refl g) ?_,h⟩;exact H2.cv λk ⟨k1,k2,ap,q,s1,s2⟩=>⟨k1,k2,ap,q,⟨uv,_,hE,hcv.1,s1⟩,s2⟩
 .cases h
theorem dX (S:df n W F b E g w s a) (v:Value):(E++ [v])[s.n]?=some v:=by rw [<-S.len];simp
theorem Vy (S:df n W F b E g w s a) {t:TypeId} {z:List Cl} {K:SV->Ov->Prop} (ho:o.op= .alloc t) (hz:oh X.P t=some z) (h:K (.c (.p s.n 0)) (s.new (.cells t z))):
  ∃ v w',(execOp a.eval o).run X.P w= .ok (.value v) w'/\Out n W F b E g a K v w':=by
 unfold oh at hz;split at hz
 .rename_i i hi;split at hz
  .rename_i z0 GW;have hr:(execOp a.eval o).run X.P w= .ok (.value (ptr w.heap.size 0)) (w.alloc (.cells z0.cells t)):=Us ho hi GW;have hc:bz (E++ [ptr w.heap.size 0]) g z z0.cells.toList:=kY hz;refine ⟨_,_,hr,_,g,_,_,by simp [bu.app],bt.refl g,S.new (v:=ptr w.heap.size 0) (bt.refl g) ?_,(show dd _ g (.c (.p s.n 0)) _ from ⟨w.heap.size,dX S _,rfl⟩),h⟩;have H:=S.sat.sl.new (xH.mk' w (.cells z0.cells t));exact H.cv λk ⟨k1,k2,ap,q,s1,s2⟩=>⟨k1,k2,ap,q,⟨w.heap.size,z0.cells.toList,dX S _,hc,by assumption⟩,s2⟩
  grind
 grind
theorem ael (S:df n W F b E g w s a) {t:TypeId} {x:Operand} {v:S1} {K:SV->Ov->Prop} (ho:o.op= .box t x) (r:dd E g (.v v) (a.eval x)) (h:K (.c (.p s.n 0)) (s.new (.cells t v.cells))):
  ∃ v w',(execOp a.eval o).run X.P w= .ok (.value v) w'/\Out n W F b E g a K v w':=by
 have hr:(execOp a.eval o).run X.P w= .ok (.value (ptr w.heap.size 0)) (w.alloc (.cells (a.eval x).cells t)):=ahf ho rfl;have hc:bz (E++ [ptr w.heap.size 0]) g v.cells (a.eval x).cells.toList:=(gr.cells r).mono (bu.app E _) (bt.refl g);refine ⟨_,_,hr,_,g,_,_,by simp [bu.app],bt.refl g,S.new (v:=ptr w.heap.size 0) (bt.refl g) ?_,(show dd _ g (.c (.p s.n 0)) _ from ⟨w.heap.size,dX S _,rfl⟩),h⟩;have H:=S.sat.sl.new (xH.mk' w (.cells (a.eval x).cells t));exact H.cv λk ⟨k1,k2,ap,q,s1,s2⟩=>⟨k1,k2,ap,q,⟨w.heap.size,(a.eval x).cells.toList,dX S _,hc,by assumption⟩,s2⟩
theorem De {g:World} {k:IntKind}:∀ {xs:List Int},(∀ n∈xs,aB k n)-> @eF Int (Ty.int k).rep g (xs.map λn=>[Value.int k n]) xs/\(xs.map λn=>[Value.int k n]).flatten=xs.map (Value.int k ·)
 | [],_=>⟨trivial,rfl⟩
 | x::xs,h=>by
  obtain ⟨h1,h2⟩:=De (g:=g) (xs:=xs) λn hn=>h n (aI _ hn);exact ⟨⟨⟨rfl,oO.1 (h x aN)⟩,h1⟩,by grind⟩
theorem abF {bb:Nat} {k:IntKind} {t:TypeId} {xs:List (Ty.int k).den} {l:List Atom} (hx:∀ n∈xs,aB k n) (hn:xs.length<=maxLen) (H:SL W g w (Lm.pc bb (xs.map (Value.int k ·)).toArray t::l)):SL W g w (pD (.int k) t (.slice (some ⟨bb,0,none⟩) xs.length xs.length) xs::l):=by
 letI:=(Ty.int k).rep;obtain ⟨r,e⟩:=De (g:=g) hx;have H1:=SL.wE (size:=1) (cap:=xs.length) xs.length H (aG _) hn (by simp);have e2:List.take (xs.length*1) (xs.map (Value.int k ·)).toArray.toList=(xs.map λn=>[Value.int k n]).flatten:=by
  grind [aL]
 rw [e2] at H1;exact SL.YG r H1
theorem zH {k:IntKind}:∀ {n:Nat} {z:List Cl},sd k n z=true->z=au n (.k (.int k 0))
 | 0,[],_=>rfl
 | n+1,z,h=>by
  unfold sd at h;split at h;omega
  .rename_i m k' r e;cases e;rw [ao] at h;rw [IntKind.eq_of_beq h.1,zH h.2];rfl
  grind
 | 0,_::_,h=>by trivial
theorem Cn {E:Env} {v:Value}:∀ {n:Nat} {us:List Value},bz E g (au n (.k v)) us->us=au n v
 | 0,_,h=>h
 | n+1,_,⟨u,q,e,⟨h1,_⟩,h2⟩=>by rw [e,h1,Cn h2];rfl
theorem MC (S:df n W F b E g w s a) {t:TypeId} {z:List Cl} {m:Nat} {k:IntKind} {K:SV->Ov->Prop} (ho:o.op= .alloc t) (hz:oh X.P t=some z) (ha:ME X.P t=some (m,k)) (Ew:sd k m z=true) (h:K (.c (.oe s.n 1 0 0)) (s.new (.sl t (.int k) (au m 0)))):
  ∃ v w',(execOp a.eval o).run X.P w= .ok (.value v) w'/\Out n W F b E g a K v w':=by
 obtain rfl:=zH Ew;obtain ⟨_,_,_,_,hm⟩:=AX ha;unfold oh at hz;split at hz
 .rename_i i hi;split at hz
  .rename_i z0 GW;have hr:(execOp a.eval o).run X.P w= .ok (.value (ptr w.heap.size 0)) (w.alloc (.cells z0.cells t)):=Us ho hi GW;have hc:z0.cells.toList=au m (.int k 0):=Cn (E:=E) (g:=g) (kY hz);have za:z0.cells=((au m (0:Int)).map (Value.int k ·)).toArray:=by
    refine Array.toList_inj.1 ?_;rw [hc,List.map_replicate]
   have H:=S.sat.sl.new (xH.mk' w (.cells z0.cells t));rw [za] at hr H;have H2:=abF (k:=k) (xs:=au m (0:Int)) (λn hn=>by rw [List.eq_of_mem_replicate hn];cases k<;>(unfold aB;decide)) (by rw [aX];unfold maxLen;omega) H;refine ⟨_,_,hr,_,g,_,_,bu.app E [.slice (some ⟨w.heap.size,0,none⟩) (au m (0:Int)).length (au m (0:Int)).length],bt.refl g,S.new (bt.refl g) ?_,(show dd _ g (.c (.oe s.n 1 0 0)) _ from ⟨_,dX S _,TJ.symm,_,rfl⟩),h⟩;exact H2.cv λk ⟨k1,k2,ap,q,s1,s2⟩=>⟨k1,k2,ap,q,⟨_,dX S _,s1⟩,s2⟩
  .cases hz
 .cases hz
theorem Vw (S:df n W F b E g w s a) {t:TypeId} {x:Operand} {m:Nat} {k:IntKind} {l:List Int} {K:SV->Ov->Prop} (ho:o.op= .box t x) (r:dd E g (.arr k l) (a.eval x)) (ha:ME X.P t=some (m,k)) (hl:l.length=m) (h:K (.c (.oe s.n 1 0 0)) (s.new (.sl t (.int k) l))):
  ∃ v w',(execOp a.eval o).run X.P w= .ok (.value v) w'/\Out n W F b E g a K v w':=by
 obtain ⟨hx,yY⟩:=r;obtain ⟨_,_,_,_,hm⟩:=AX ha;have hr:(execOp a.eval o).run X.P w= .ok (.value (ptr w.heap.size 0)) (w.alloc (.cells (a.eval x).cells t)):=ahf ho rfl;have H:=S.sat.sl.new (xH.mk' w (.cells (a.eval x).cells t));have hc:(a.eval x).cells=(l.map (Value.int k ·)).toArray:=by rw [hx];rfl
 rw [hc] at hr H;have H2:=abF (k:=k) (xs:=l) yY (by unfold maxLen;omega) H;refine ⟨_,_,hr,_,g,_,_,bu.app E [.slice (some ⟨w.heap.size,0,none⟩) l.length l.length],bt.refl g,S.new (bt.refl g) ?_,(show dd _ g (.c (.oe s.n 1 0 0)) _ from ⟨_,dX S _,TJ.symm,_,rfl⟩),h⟩;exact H2.cv λk ⟨k1,k2,ap,q,s1,s2⟩=>⟨k1,k2,ap,q,⟨_,dX S _,s1⟩,s2⟩
theorem Io (S:df n W F b E g w s a) {t:TypeId} {x y:Operand} {c:Cl} {k:IntKind} {l:List Int} {K:Ov->Prop} (ho:o.op= .store t x y) (r:ck E g c (a.eval x)) (rv:dd E g (.arr k l) (a.eval y)) (h:zx X.P b s t c k l K):
  ∃ w' s',(execOp a.eval o).run X.P w= .ok .skip w'/\df n W F b E g w' s' a/\K s':=by
 unfold zx at h;split at h
 .rename_i m k' lb sz i ha;obtain ⟨v,hE,hx,_⟩:=r;split at h
  .rename_i u e xs eD;have h9:=dc h;clear h;obtain ⟨hc,h⟩:=h9;simp only [ao] at hc;split at h
   .rename_i ys Ny;obtain ⟨q,hy⟩:=eB Ny;subst q;subst hy;obtain ⟨Ew,hlen,Qo,h⟩:=h;obtain ⟨e',hu,mM,hn,hm⟩:=AX ha;obtain ⟨bb,cap,cur,rfl,q1,q2,q3,q4,q5,H2⟩:=Uq (j5 S hE eD) (by omega);rw [ai hc.2.1,Ew,TJ] at hx;have hkc:(a.eval y).cells=(l.map (Value.int k ·)).toArray:=by rw [rv.1];rfl
    have yZ:(a.eval y).cells.size=m:=by rw [hkc];simp [Qo]
    have hr:=kB (P:=X.P) (t:=t) (off:=0) (v:=a.eval y) (H2.pc 0) (by rw [mM,yZ]) (by rw [hkc];simp [Value.oneCell']) (by omega);rw [<-hx] at hr;have hle:m<=cap:=by omega
    have ND:(a.eval y).cells.toList=l.map (Value.int k ·):=by rw [hkc]
    rw [yZ,ND,List.take_zero,gS,gA] at hr;have up:Xk w bb (l.map (Value.int k ·)++cur.toList.drop m).toArray (w.setRow bb (l.map (Value.int k ·)++cur.toList.drop m).toArray):=⟨rfl,(H2.pc 0).lt⟩;have H3:=H2.upd 0 up;have H4:=SL.wE (size:=1) (cap:=cap) m H3 hle q2 (by simp [Qo];omega);letI:=(Ty.int k).rep;obtain ⟨r,e2⟩:=De (g:=g) rv.2;have e3:List.take (m*1) (l.map (Value.int k ·)++cur.toList.drop m).toArray.toList=(l.map λn=>[Value.int k n]).flatten:=by
     rw [e2,Nat.mul_one,List.toList_toArray,List.take_append_of_le_length (by simp [Qo]),aL (by simp [Qo])]
    rw [e3] at H4;have H5:SL W g _ (pD (.int k) u (.slice (some ⟨bb,0,none⟩) m cap) l::_):=SL.YG (xs:=l) r (by rw [Qo];exact H4);rw [hlen] at hE;have hr':(execOp a.eval o).run X.P w= .ok .skip (w.setRow bb (l.map (Value.int k ·)++cur.toList.drop m).toArray):=by simp [execOp,ho,hr]
    refine ⟨_,_,hr',S.back hE _ (bt.refl g) ?_,h⟩;exact H5.cv λq ⟨k1,k2,ap,q',s1,s2⟩=>⟨k1,k2,ap,q',⟨_,hE,s1⟩,s2⟩
   .cases h
  .cases h
 .cases h
instance oneCellsTy (e:Ty): @iU e.den e.rep:= @iU.mk e.den e.rep λ{g _ _} h=>((ft ([]:Env) g e h).1).one
theorem Y4 {e:Ty} {v:Value} {xs:List e.den} (h:od e g v xs) (m:bt g w): @Rd e.den e.rep g w v xs:= @Is.rd e.den e.rep g w v xs h m
theorem Y3 {e:Ty} {t:TypeId} {v:Value} {xs:List e.den} {l:List Atom} (H:SL W g w (pD e t v xs::l)): @Rd e.den e.rep g w v xs:=by
 letI:=e.rep;exact SL.amA (α:=e.den) H
theorem ug (S:df n W F b E g w s a) {e:Ty} {x:Cl} {u:Value} {ys:List e.den} (r:ck E g x u) (h:tp b s e x=some ys): @Rd e.den e.rep g w u ys/\od e w u ys:=by
 unfold tp at h;split at h
 .cases h;obtain ⟨rfl,_⟩:=r;exact ⟨.inl ⟨rfl,rfl⟩,(@dE e.den e.rep w _ _).2 (.inl ⟨rfl,rfl⟩)⟩
 .obtain ⟨q,hy⟩:=eB h;subst q;subst hy;exact ⟨Y4 r S.m,od.mono S.m r⟩
 .obtain ⟨hE,_⟩:=r;split at h
  .rename_i eD;obtain ⟨q,hy⟩:=eB h;subst q;subst hy;exact ⟨Y3 (j5 S hE eD),pK (j5 S hE eD)⟩
  .rename_i eD;obtain ⟨q,hy⟩:=eB h;subst q;subst hy;exact ⟨Y4 (lO S hE eD) S.m,(lO S hE eD).mono S.m⟩
  grind
 grind
theorem HZ (S:df n W F b E g w s a) {e:Ty} {x:Cl} {u:Value} {K:List e.den->Prop} (r:ck E g x u) (h:YF b s e x K):∃ ys,@Rd e.den e.rep g w u ys/\od e w u ys/\K ys:=by
 unfold YF at h;split at h
 .rename_i q sz lo hi;obtain ⟨v,hE,hu,_⟩:=r;split at h
  .rename_i t e' xs eD;have h9:=dc h;obtain ⟨mM,h1,h2,h3,h4⟩:=h9;split at h4
   .rename_i ys Ny;obtain ⟨q',hy⟩:=eB Ny;subst q';have OU:ys=(xs.drop lo.toNat).take (hi.toNat - lo.toNat):=hy;have H:=j5 S hE eD;obtain rfl:=ai mM
    grind [Rd.slice, Y3, Ty.gw, k9, pK]
   grind
  grind
 grind [ug]
theorem zy {P:Program} {w:World} (base:Nat) (t u ty e:TypeId) (i:TypeInfo) (ht:P.underlying t=some (.slice e)) (hu:P.underlying u=some .string) (hi:P.info? e=some i) (hz:i.zero=some (.int .u8 0))
  (NA:i.size=1) (hby:i.bytes=1) (v:Value) (m:Nat) (xs:List Value) (JH:w.ownsRow base e 1 v m xs) (z:ByteArray)
  (h63:m+z.size<=maxLen) (aai:m+z.size<=140737488355328) {v':Value} {w':World} (hr:(Builtin.append_ #[t,u] ty #[v,.string z]).run P w= .ok v' w'):
  ∀ k,v'.ownBlock=some k->v.ownBlock=some k\/w.heap.size<=k:=by
 have hxl:xs.length=m:=by simpa using JH.1
 have ajL:m+z.size<=9223372036854775807:=by simp only [maxLen] at h63;omega
 rcases JH.2 with ⟨rfl,rfl⟩| ⟨gb,cap,cur,rfl,hbg,hg,hnc,ff,yZ,Nz⟩
 .by_cases hm:z.size=0
  .have hf:=Go.Lib.run_firstCells_string (P:=P) w 1 z;rw [hm] at hf;have jt:(Builtin.append_ #[t,u] ty #[.slice none 0 0,.string z]).run P w= .ok (.slice none 0 0) w:=by
    simp [Builtin.append_,run_underlying ht,run_underlying hu,sizeOf,typeInfo,hi,NA,Builtin.lenOf,hm,hf]
   rw [jt] at hr;cases hr;intro k hk;simp [Value.ownBlock] at hk
  .rw [run_append_nil_string (P:=P) w t u ty e i (.int .u8 0) ht hu hi hz z (by omega) (by omega) (by rw [hby];omega)] at hr
   grind [Value.ownBlock]
 .by_cases Tv:m+z.size<=cap
  .have anu:cur.size=cap:=by simpa using yZ
   rw [Go.Lib.run_append_room_string (P:=P) w t u ty e i ht hu hi NA gb m cap cur hg z Tv (by omega)] at hr;cases hr;exact λk hk=>.inl hk
  .have holds:∀ j u,xs[j]?=some u->w.cell? ((⟨gb,0,none⟩:Addr).add j)=some u:=JH.cells (g:=gb) rfl;rw [Go.Lib.run_append_grow_string (P:=P) w t u ty e i (.int .u8 0) ht hu hi hz ⟨gb,0,none⟩ m cap xs (by rw [NA];simpa using hxl) holds z (by omega) (by omega) (by rw [hby];exact growslice_fits (by omega) (by omega))] at hr
   grind [Value.ownBlock]
theorem wG (g:World):∀ l:List UInt8,eF g (l.map λc=>[Value.int .u8 (c.toNat:Int)]) l/\(l.map λc=>[Value.int .u8 (c.toNat:Int)]).flatten=l.map λc=>Value.int .u8 (c.toNat:Int)
 | []=>⟨trivial,rfl⟩
 | c::l=>⟨⟨rfl,(wG g l).1⟩,by rw [cw,dz,(wG g l).2];rfl⟩
theorem MA (S:df n W F b E g w s a) {t t2:TypeId} {x y:Operand} {cx cy:Cl} {K:SV->Ov->Prop} (ho:o.op= .call {callee:=.builtin .append,args:= #[x,y],argTypes:= #[t,t2]}) (rx:ck E g cx (a.eval x)) (ry:ck E g cy (a.eval y)) (h:Kd X b s t t2 cx cy K):
  ∃ v w',(execOp a.eval o).run X.P w= .ok (.value v) w'/\Out n W F b E g a K v w':=by
 unfold Kd at h;split at h
 .rename_i et z ht hu;obtain ⟨hy,hz⟩:=ry;obtain ⟨hu8,h⟩:=dc h;obtain ⟨ie,mN,hs1,GW,hb1⟩:∃ ie,X.P.info? et=some ie/\ie.size=1/\ie.zero=some (.int .u8 0)/\ie.bytes=1:=by
   unfold Nu at hu8;split at hu8
   .rename_i ie mN;rw [ao] at hu8;obtain ⟨h1,h2⟩:=hu8;split at h2
    .rename_i GW;exact ⟨ie,mN,ai h1,GW,ai h2⟩
    .cases h2
   .cases hu8
  have OT:z.data.toList.length=z.size:=by rfl
  have app:∀ {xs:List UInt8} {v:Value} {L:List Atom},SL W g w (pD .u8 et v xs::L)->a.eval x=v->xs.length+z.size<=140737488355328->
    ∃ v' w',(execOp a.eval o).run X.P w= .ok (.value v') w'/\SL W g w' (pD .u8 et v' (xs++z.data.toList)::L)/\∃ q m c,v'= .slice q m c:=λ{xs v L} H hx hb=>by
   obtain ⟨cs,hrel,H1⟩:=SL.pD (α:=UInt8) H;have tx:=H1.row;obtain ⟨v',w',jt,Z7,NF,_⟩:=Go.Lib.run_append_own_string (P:=X.P) (w:=w) W.n t t2 o.type et ie ht hu mN GW hs1 hb1 v xs.length cs.flatten tx z (by unfold maxLen;omega) hb H.size;have Qh:=zy (P:=X.P) W.n t t2 o.type et ie ht hu mN GW hs1 hb1 v xs.length cs.flatten tx z (by unfold maxLen;omega) hb jt;have H2:=H1.grown Z7 NF Qh;have apr:Go.Lib.strCells z=z.data.toList.map λc=>Value.int .u8 (c.toNat:Int):=by
    simp [Go.Lib.strCells]
   have H3:SL W g w' (pD .u8 et v' (xs++z.data.toList)::L):=by
    refine SL.YG (α:=UInt8) (cs:=cs++(z.data.toList.map λc=>[Value.int .u8 (c.toNat:Int)])) (hrel.append (wG g _).1) ?_;rw [jz,(wG g _).2,af,OT,<-apr];exact H2
   obtain ⟨q,m,c,hv,_⟩:=Ia H3;exact ⟨v',w',by simp [execOp,ho,resolve,invoke,builtin,hx,hy,jt],H3,q,m,c,hv⟩
  split at h
  .obtain ⟨hb,h⟩:=h;obtain ⟨hx,_⟩:=rx;have H:=SL.zT UInt8 et S.sat.sl;obtain ⟨v',w',hr,H',hv⟩:=app (xs:=[]) H hx (by simpa using hb);refine ⟨v',w',hr,E++ [v'],g,_,_,bu.app E _,bt.refl g,S.new (v:=v') (bt.refl g) ?_,(show dd _ g (.c (.o s.n)) v' from ⟨dX S _,hv⟩),h⟩;exact H'.cv λk ⟨k1,k2,ap,q,s1,s2⟩=>⟨k1,k2,ap,q,⟨v',dX S _,by simpa using s1⟩,s2⟩
  .obtain ⟨hE,_⟩:=rx;split at h
   .rename_i l _ Qz e' xs0 eD;obtain ⟨hte,h⟩:=dc h;obtain rfl:=ai hte;split at h
    .rename_i xs Aj;obtain ⟨hb,hK⟩:=h;obtain ⟨q,hq⟩:=eB Aj;subst q;subst hq;obtain ⟨v',w',hr,H',hv⟩:=app (j5 S hE eD) rfl hb;refine ⟨v',w',hr,E++ [v'],g,_,_,bu.app E _,bt.refl g,S.move (v:=v') hE (bt.refl g) ?_,(show dd _ g (.c (.o s.n)) v' from ⟨dX S _,hv⟩),hK⟩;exact H'.cv λk ⟨k1,k2,ap,q,s1,s2⟩=>⟨k1,k2,ap,q,⟨v',dX S _,s1⟩,s2⟩
    .cases h
   .cases h
  .cases h
 .cases h
theorem Mz (S:df n W F b E g w s a) {t t2:TypeId} {x y:Operand} {cx cy:Cl} {K:SV->Ov->Prop} (ho:o.op= .call {callee:=.builtin .append,args:= #[x,y],argTypes:= #[t,t2]}) (rx:ck E g cx (a.eval x)) (ry:ck E g cy (a.eval y)) (h:Kc X b s t t2 cx cy K):
  ∃ v w',(execOp a.eval o).run X.P w= .ok (.value v) w'/\Out n W F b E g a K v w':=by
 unfold Kc at h;split at h;cases h
 .rename_i et e ie V9;have aqa:X.P.underlying t=some (.slice et)/\X.P.info? et=some ie/\e.size=ie.size:=by
   unfold NX at V9;split at V9
   .rename_i Qz ht;split at V9
    .rename_i ie' e' mN hty;split at V9
     .rename_i hs;cases V9;exact ⟨ht,mN,ai hs⟩
     .cases V9
    .cases V9
   .cases V9
  obtain ⟨ht,mN,mM⟩:=aqa;split at h
  .rename_i htt;obtain rfl:=ai htt
   .obtain ⟨ys,V4,apX,h⟩:=HZ S ry h;letI:=e.rep;have JJ:aQ.size e.den=e.size:=Ty.gw e
    -- the append itself
    have app:∀ {xs:List e.den} {v:Value} {L:List Atom},SL W g w (pD e et v xs::L)->a.eval x=v->Ur X et e=true->(xs.length+ys.length)*ie.bytes<=140737488355328->xs.length+ys.length<=9223372036854775807->
      ∃ v' w',(execOp a.eval o).run X.P w= .ok (.value v') w'/\SL W g w' (pD e et v' (xs++ys)::L)/\∃ q m c,v'= .slice q m c:=λ{xs v L} H hx sa hb hm=>by
     unfold Ur at sa;rw [mN] at sa;simp only [ao] at sa;obtain ⟨h1,h2⟩:=sa;cases hz:ie.zero with
     | none=>rw [hz] at h2;cases h2
     | some z=>
      rw [hz] at h2;obtain ⟨v',w',hr,H',_⟩:=SL.append (α:=e.den) (P:=X.P) (t:=t) (ty:=o.type) (bytes:=ie.bytes) H V4 ht (by rw [mN,JJ,mM];simp [hz]) (by rw [mN];simp [hz];rw [JJ];exact ai h2) (by rw [JJ];simpa using h1) hb hm;obtain ⟨q,m,c,hv,_⟩:=Ia H';exact ⟨v',w',by simp [execOp,ho,resolve,invoke,builtin,hx,hr],H',q,m,c,hv⟩
    split at h
    .obtain ⟨sa,hb,h⟩:=dc h;obtain ⟨hx,_⟩:=rx;have H:=SL.zT e.den et S.sat.sl;have hlen:=lJ apX;obtain ⟨v',w',hr,H',hv⟩:=app (xs:=[]) H hx sa (by simpa using hb) (by simpa using hlen);refine ⟨v',w',hr,E++ [v'],g,_,_,bu.app E _,bt.refl g,S.new (v:=v') (bt.refl g) ?_,(show dd _ g (.c (.o s.n)) v' from ⟨dX S _,hv⟩),h⟩;exact H'.cv λk ⟨k1,k2,ap,q,s1,s2⟩=>⟨k1,k2,ap,q,⟨v',dX S _,by simpa using s1⟩,s2⟩
    .obtain ⟨hE,_⟩:=rx;split at h
     .rename_i l _ Qz e' xs0 eD;split at h
      .rename_i hte;obtain rfl:=ai hte;split at h
       .rename_i xs Aj;obtain ⟨sa,hb,hm,h⟩:=dc h;obtain ⟨q,hy⟩:=eB Aj;subst q;subst hy;obtain ⟨v',w',hr,H',hv⟩:=app (j5 S hE eD) rfl sa hb hm;refine ⟨v',w',hr,E++ [v'],g,_,_,bu.app E _,bt.refl g,S.move (v:=v') hE (bt.refl g) ?_,(show dd _ g (.c (.o s.n)) v' from ⟨dX S _,hv⟩),h⟩;exact H'.cv λk ⟨k1,k2,ap,q,s1,s2⟩=>⟨k1,k2,ap,q,⟨v',dX S _,s1⟩,s2⟩
       .cases h
      .cases h
     .cases h
    .cases h
  .exact MA S ho rx ry h
end
section
variable {X:Vx} {n:Nat} {W:cV} {F:List Atom} {b:Bs} {E:Env} {g w:World} {s:Ov} {a:Act} {o:Oper}
theorem NL:∀ (vs:List Value) (k:Nat) (us:List Value) (off:Nat),off+k+vs.length<=us.length->
  (vs.zipIdx k).foldl (λ(q:Array Value) (p:Value×Nat)=>q.setIfInBounds (off+p.2) p.1) us.toArray=(us.take (off+k)++(vs++us.drop (off+k+vs.length))).toArray
 | [],k,us,off,_=>by simp
 | v::r,k,us,off,h=>by
  have h':off+k< us.length:=by simp at h;omega
  have e:us.toArray.setIfInBounds (off+k) v=(us.set (off+k) v).toArray:=by simp
  show (r.zipIdx (k+1)).foldl _ (us.toArray.setIfInBounds (off+k) v)=_;rw [e,NL r (k+1) (us.set (off+k) v) off (by simp at h ⊢;omega)];have h1:(us.set (off+k) v).take (off+(k+1))=us.take (off+k)++ [v]:=by
   rw [show off+(k+1)=off+k+1 by omega,List.take_add_one,List.getElem?_set_self (by simpa using h'),List.take_set_of_le (by omega)];simp
  have h2:(us.set (off+k) v).drop (off+(k+1)+r.length)=us.drop (off+k+(v::r).length):=by
   rw [List.drop_set_of_lt (by omega)];simp;omega
  rw [h1,h2];simp
inductive tP (E:Env) (g:World) (a:Act):List (Nat×S1)->List (Nat×Operand)->Prop
 | nil:tP E g a [] []
 | cons {i:Nat} {v:S1} {x:Operand} {ps:List (Nat×S1)} {l:List (Nat×Operand)} (h:gr E g v (a.eval x)) (k:tP E g a ps l):tP E g a ((i,v)::ps) ((i,x)::l)
theorem ua (S:df n W F b E g w s a):∀ {l:List (Nat×Operand)} {ps:List (Nat×S1)},tk b s l=some ps->tP E g a ps l
 | [],ps,h=>by
  obtain rfl: []=ps:=aj h;exact .nil
 | (i,x)::r,ps,h=>by
  unfold tk at h;split at h
  .rename_i v hv;split at h
   .rename_i l hl;obtain rfl:(i,v)::l=ps:=aj h;exact .cons (S.fe hv) (ua S hl)
   .cases h
  .cases h
theorem xn {place:Nat->Option (Nat×Nat)}:∀ {ps:List (Nat×S1)} {l:List (Nat×Operand)} {cs zg:List Cl} {us:List Value},Aq place cs ps=some zg->tP E g a ps l->bz E g cs us->
  ∃ ve,Instr.fill place us.toArray (l.map λq=>(q.1,a.eval q.2))=some ve.toArray/\bz E g zg ve
 | [],_,cs,zg,us,h,.nil,hc=>by
  obtain rfl:cs=zg:=aj h;exact ⟨us,rfl,hc⟩
 | (i,v)::r,_,cs,zg,us,h,.cons (x:=x) h2 h3,hc=>by
  unfold Aq at h;split at h;cases h
  .rename_i off size hp;split at h
   .split at h
    .have hv:=gr.cells h2;have hl:(a.eval x).cells.size=size:=by
      have:=hv.length;simp_all
     have asc:off+size<=us.length:=by rw [hc.length];simp_all
     obtain ⟨ve,h4,h5⟩:=xn h h3 (xU (off:=off) hc hv);refine ⟨ve,?_,h5⟩;show Instr.fill place us.toArray ((i,a.eval x)::_)=_;unfold Instr.fill;simp only [hp];have vX:((a.eval x).cells.size !=size|| decide (off+(a.eval x).cells.size>us.toArray.size))=false:=by
      grind
     have e:=NL (a.eval x).cells.toList 0 us off (by rw [Array.length_toList,hl];omega)
     grind [Array.toList_zipIdx]
    grind
   grind
theorem Ck {t:TypeId} {parts:Array (Nat×Operand)} {ps:List (Nat×S1)} {K:SV->Prop} (ho:o.op= .build t parts) (hp:tP E g a ps parts.toList) (h:wg X.P t ps K):ER X.P o a w E g K:=by
 unfold wg oh at h;split at h
 .grind
 .rename_i z hz;split at hz
  .split at hz
   .rename_i z0 GW;have hzc:bz E g z z0.cells.toList:=kY hz;have key:∀ {place:Nat->Option (Nat×Nat)} {cs:List Cl},Aq place z ps=some cs->∃ ve,Instr.fill place z0.cells (parts.toList.map λq=>(q.1,a.eval q.2))=some ve.toArray/\bz E g cs ve:=λ{place cs} hf=>by
     have:=xn hf hp hzc;omega
    split at h
    .split at h
     .split at h
      .rename_i cs hf;obtain ⟨ve,h1,h2⟩:=key hf;refine ⟨.agg ve.toArray,.v (.agg cs),?_,⟨ve,h2,rfl⟩,h⟩;simp_all [Program.built,execOp,run_build]
      grind
     grind
    .split at h
     .split at h
      .rename_i cs hf;obtain ⟨ve,h1,h2⟩:=key hf;refine ⟨.agg ve.toArray,.v (.agg cs),?_,⟨ve,h2,rfl⟩,h⟩;simp_all [Program.built,execOp,run_build]
      grind
     grind
    grind
   grind
  grind
theorem Ie {e:Ty}:∀ {off m:Nat} {cs:List Cl} {zs:List e.den} {us:List Value},Vm e off m cs=some zs->bz E g cs us->zs.length=m/\∀ (i:Nat) z,zs[i]?=some z->∃ u,us[off+i]?=some u/\e.rep.rel g [u] z
 | 0,0,_,zs,_,h,_=>by
  grind [Vm]
 | 0,m+1,c::r,zs,us,h,⟨u,q,e,h1,h2⟩=>by
  unfold Vm at h;split at h
  .rename_i z hz;split at h
   .rename_i l hl;obtain ⟨h3,h4⟩:=Ie hl h2;refine ⟨by grind,λi y hy=>?_⟩;cases i with
    | zero=>
     obtain ⟨u1,u2,e1,h5,h6⟩:=of_cells _ hz (bz.cons h1 bz.nil);obtain rfl:u2= []:=h6
     grind
    | succ i=>
     grind
   grind
  grind
 | off+1,m,c::r,zs,us,h,⟨u,q,e,_,h2⟩=>by
  obtain ⟨h3,h4⟩:=Ie (off:=off) h h2
  grind
 | 0,m+1,[],_,_,h,_=>by cases h
 | off+1,m,[],_,_,h,_=>by cases h
theorem gG:∀ {cs:List Cl} {us:List Value} {s:Ov} {g:World} {k:List Cl->Ov->Prop},df n W F b E g w s a->bz E g cs us->kW b cs s k->∃ g' s' zg,bt g g'/\df n W F b E g' w s' a/\bz E g' zg us/\k zg s'
 | [],us,s,g,k,S,hc,h=>⟨g,s,[],bt.refl g,S,hc,h⟩
 | c::r,us,s,g,k,S,⟨u,q,e,h1,h2⟩,h=>by
  subst e;unfold kW at h;split at h
  .rename_i l;have hE:=h1.1;split at h
   .rename_i t e xs eD;letI:=e.rep;obtain ⟨g1,m1,H1,hi⟩:=SL.qF (α:=e.den) (j5 S hE eD);have S1:df n W F b E g1 w (s.dR l (.held t e xs)) a:=S.back hE _ m1 (H1.cv λk s2=>⟨λ_=>none,k,λ_=>.inl rfl,rfl,(show (cF E l (.held t e xs)).sat g1 _ from ⟨u,hE,hi⟩),s2⟩);obtain ⟨g2,s2,cs2,m2,S2,h3,h4⟩:=gG S1 (h2.mono (bu.refl E) m1) h;exact ⟨g2,s2,_,m1.trans m2,S2,bz.cons (show ck E g2 (.d e xs) u from od.mono m2 hi) h3,h4⟩
   .rename_i t e xs eD;have hi:=lO S hE eD;obtain ⟨g2,s2,cs2,m2,S2,h3,h4⟩:=gG S h2 h;exact ⟨g2,s2,_,m2,S2,bz.cons (show ck E g2 (.d e xs) u from od.mono m2 hi) h3,h4⟩
   .cases h
  .rename_i l off m;obtain ⟨bb,c,hE,hmc,hu⟩:=h1;split at h
   .rename_i t cs0 eD;have h9:=dc h;obtain ⟨mM,h⟩:=h9;have mM:=ai mM;split at h
    .rename_i zs hzs;obtain ⟨us0,hr,_,H⟩:=o5 S hE eD;obtain ⟨hlen,qm⟩:=Ie hzs hr;obtain ⟨g1,m1,H1,hg⟩:=SL.agN H;have S1:df n W F b E g1 w (s.dR l .gone) a:=S.back hE .gone m1 (H1.cv λk s2=>⟨λ_=>none,k,λ_=>.inl rfl,rfl,trivial,s2⟩);have hi:od (O7 off cs0) g1 u zs:=by
      letI:=(O7 off cs0).rep;refine (dE (α:=(O7 off cs0).den)).2 ?_;refine .inr ⟨⟨bb,off,none⟩,c,by rw [hu,hlen],by rw [hlen];exact hmc.1,hmc.2,λi x hx=>?_⟩;obtain ⟨ux,hux,hrx⟩:=qm i x hx;refine ⟨[ux],λj v hj=>?_,aQ.mono m1 hrx⟩
      match j,hj with
      | 0,hj=>
       grind [Ty.gw,Addr.add]
      | j+1,hj=>simp at hj
     obtain ⟨g2,s2,cs2,m2,S2,h3,h4⟩:=gG S1 (h2.mono (bu.refl E) m1) h;exact ⟨g2,s2,_,m1.trans m2,S2,bz.cons (show ck E g2 (.d (O7 off cs0) zs) u from od.mono m2 hi) h3,h4⟩
    .cases h
   .cases h
  .rename_i l sz i off;obtain ⟨v,hE,hu,_⟩:=h1;split at h
   .rename_i t e xs eD;have h9:=dc h;clear h;obtain ⟨hc,h0,h8,h⟩:=h9;simp only [ao] at hc;letI:=e.rep;obtain ⟨g1,m1,H1,hi⟩:=SL.qF (α:=e.den) (j5 S hE eD);have S1:df n W F b E g1 w (s.dR l (.held t e xs)) a:=S.back hE _ m1 (H1.cv λk s2=>⟨λ_=>none,k,λ_=>.inl rfl,rfl,(show (cF E l (.held t e xs)).sat g1 _ from ⟨v,hE,hi⟩),s2⟩);obtain ⟨g2,s2,cs2,m2,S2,h3,h4⟩:=gG S1 (h2.mono (bu.refl E) m1) h;exact ⟨g2,s2,_,m1.trans m2,S2,bz.cons (show ck E g2 (.de e xs i off) u from ⟨⟨h0,h8,eU hc.2⟩,v,od.mono m2 hi,by rw [ai hc.1];exact hu⟩) h3,h4⟩
   .rename_i t e xs eD;have h9:=dc h;clear h;obtain ⟨hc,h0,h8,h⟩:=h9;simp only [ao] at hc;have hi:=lO S hE eD;obtain ⟨g2,s2,cs2,m2,S2,h3,h4⟩:=gG S h2 h;exact ⟨g2,s2,_,m2,S2,by grind [bz.cons,ck,eU,od.mono,ai],h4⟩
   .cases h
  .rename_i l sz lo hi;obtain ⟨v,hE,hu,_⟩:=h1;split at h
   .rename_i t e xs eD;have h9:=dc h;clear h;obtain ⟨hc,h0,h8,h7,h⟩:=h9;obtain rfl:=ai hc;letI:=e.rep;obtain ⟨g1,m1,H1,hi⟩:=SL.qF (α:=e.den) (j5 S hE eD);have S1:df n W F b E g1 w (s.dR l (.held t e xs)) a:=S.back hE _ m1 (H1.cv λk s2=>⟨λ_=>none,k,λ_=>.inl rfl,rfl,(show (cF E l (.held t e xs)).sat g1 _ from ⟨v,hE,hi⟩),s2⟩);obtain ⟨g2,s2,cs2,m2,S2,h3,h4⟩:=gG S1 (h2.mono (bu.refl E) m1) h;exact ⟨g2,s2,_,m1.trans m2,S2,bz.cons (show ck E g2 (.d e _) u from hu▸k9 (od.mono m2 hi) h0 h8 h7) h3,h4⟩
   .rename_i t e xs eD;have h9:=dc h;clear h;obtain ⟨hc,h0,h8,h7,h⟩:=h9;obtain rfl:=ai hc;have hi:=lO S hE eD;obtain ⟨g2,s2,cs2,m2,S2,h3,h4⟩:=gG S h2 h;exact ⟨g2,s2,_,m2,S2,bz.cons (show ck E g2 (.d e _) u from hu▸k9 (od.mono m2 hi) h0 h8 h7) h3,h4⟩
   .cases h
  .obtain ⟨g2,s2,cs2,m2,S2,h3,h4⟩:=gG S h2 h;exact ⟨g2,s2,_,m2,S2,bz.cons (h1.mono (bu.refl E) m2) h3,h4⟩
theorem M7 {e:Ty}:∀ (m:Nat) {cs:List Cl} {us:List Value} {xs:List e.den},M8 e m cs=some xs->bz E g cs us->∃ css:List (List Value),css.flatten=us/\ @eF e.den e.rep g css xs/\xs.length=m
 | 0,[],us,xs,h,hc=>by
  obtain rfl: []=xs:=aj h;exact ⟨[],(show us= [] from hc).symm,trivial,rfl⟩
 | 0,_::_,us,xs,h,hc=>by cases h
 | m+1,cs,us,xs,h,hc=>by
  unfold M8 at h;split at h
  .rename_i x r hx;split at h
   .rename_i ys Ny;obtain rfl:x::ys=xs:=aj h;obtain ⟨u1,u2,e1,h1,h2⟩:=of_cells e hx hc;obtain ⟨css,h3,h4,h5⟩:=M7 m Ny h2;exact ⟨u1::css,by grind,⟨h1,h4⟩,by grind⟩
   grind
  grind
theorem Gp {α:Type}:∀ (m:Nat) (z:List α) (i:Nat),i< m*z.length->(au m z).flatten[i]?=z[i % z.length]?
 | 0,z,i,h=>by simp at h
 | m+1,z,i,h=>by
  rw [List.replicate_succ,dz];by_cases hi:i< z.length;rw [bF hi,Nat.mod_eq_of_lt hi]
  .rw [bD (by omega),Gp m z (i - z.length) (by rw [gR] at h;omega)];congr 1;exact (Nat.mod_eq_sub_mod (by omega)).symm
theorem Gq (m:Nat) (z:Array Value) (hz:0< z.size):(Array.range (m*z.size)).map (λi=>z[i % z.size]!)=((au m z.toList).flatten).toArray:=by
 apply Array.ext_getElem?;intro i;by_cases hi:i< m*z.size
 .grind [Gp,Nat.mod_lt]
 simp_all
theorem yc {z:List Cl} {us:List Value} (h:bz E g z us):∀ m:Nat,bz E g (au m z).flatten (au m us).flatten
 | 0=>bz.nil
 | m+1=>by
  exact h.app (yc h m)
theorem akQ {e:Ty} {et:TypeId} {bb m:Nat} {us:List Value} {xs:List e.den} {css:List (List Value)} {L:List Atom} (H:SL W g w (pc bb us.toArray et::L)) (h1:css.flatten=us) (h2: @eF e.den e.rep g css xs) (h3:xs.length=m) (hm:m<=maxLen):
  SL W g w (pD e et (.slice (some ⟨bb,0,none⟩) m m) xs::L):=by
 letI:=e.rep;have hlen:=(eF.length h2).2;have H2:=SL.wE (size:=aQ.size e.den) (cap:=m) m H (aG _) hm (by grind);refine SL.YG (α:=e.den) (cs:=css) h2 ?_
 grind
end
section
variable {X:Vx} {n:Nat} {W:cV} {F:List Atom} {b:Bs} {E:Env} {g w:World} {s:Ov} {a:Act} {o:Oper}
theorem aaw {t et:TypeId} {e:Ty} {ie:TypeInfo} (h:NX X t=some (et,e,ie)):X.P.underlying t=some (.slice et)/\X.P.info? et=some ie/\e.size=ie.size:=by
 grind [NX,ai]
theorem EH {P:Program} {t:TypeId} {z:List Cl} (h:oh P t=some z):∃ i z0,P.info? t=some i/\i.zero=some z0/\bz E g z z0.cells.toList:=by
 grind [oh,kY]
theorem Im (S:df n W F b E g w s a) {t:TypeId} {m:Nat} {parts:Array (Nat×Operand)} {ps:List (Nat×S1)} {K:SV->Ov->Prop} (ho:o.op= .buildSlice t m parts) (hp:tP E g a ps parts.toList) (h:DN X s t m ps K):
  ∃ v w',(execOp a.eval o).run X.P w= .ok (.value v) w'/\Out n W F b E g a K v w':=by
 unfold DN at h;split at h
 .rename_i et ht;split at h
  .rename_i ie z mN hz;obtain ⟨i',z0,aae,GW,hzc⟩:=EH (E:=E) (g:=g) hz;rw [mN] at aae;obtain rfl:=aj aae;obtain ⟨Dk,h⟩:=dc h;rw [ao,ao,ao] at Dk;obtain ⟨⟨vX,za,hc4⟩,hc3⟩:=Dk;have hsm:m*ie.size<=16777216:=eU vX;have xj:0< ie.size:=by simp_all
   have hm0:0< m:=by simp_all
   have hzs:z0.cells.size=ie.size:=by
    have:=hzc.length;simp_all
   split at h
   .grind
   .rename_i cs hf;obtain ⟨ve,h1,h2⟩:=xn hf hp (yc hzc m);have aaa:(parts.map λ(i,x)=>(i,a.eval x)).toList=parts.toList.map λq=>(q.1,a.eval q.2):=by simp
    have hr:(Instr.buildSlice t m (parts.map λ(i,x)=>(i,a.eval x))).run X.P w= .ok (.slice (some ⟨w.heap.size,0,none⟩) m m) (w.alloc (.cells ve.toArray et)):=by
     refine run_buildSlice w t et m _ ve.toArray ie z0 ht mN GW (by omega) (by have:=Nat.mul_pos hm0 xj;omega) ?_
     grind [Gq]
    have jt:(execOp a.eval o).run X.P w= .ok (.value (.slice (some ⟨w.heap.size,0,none⟩) m m)) (w.alloc (.cells ve.toArray et)):=by
     simp_all [execOp]
    have H:=S.sat.sl.new (xH.mk' w (.cells ve.toArray et));have JI:m<=maxLen:=by
     unfold maxLen;have:=Nat.le_mul_of_pos_right m xj;omega
    refine ⟨_,_,jt,E++ [ptr w.heap.size 0],g,_,_,bu.app E _,bt.refl g,S.new (v:=ptr w.heap.size 0) (bt.refl g) ?_,(show dd _ g (.c (.sc s.n 0 m)) _ from ⟨_,m,dX S _,by omega,rfl⟩),h⟩;exact H.cv λk ⟨k1,k2,ap,q,s1,s2⟩=>⟨k1,k2,ap,q,⟨_,ve,dX S _,h2.mono (bu.app E _) (bt.refl g),s1⟩,s2⟩
  grind
 grind
theorem AE (S:df n W F b E g w s a) {t:TypeId} {m:Nat} {parts:Array (Nat×Operand)} {ps:List (Nat×S1)} {K:SV->Ov->Prop} (ho:o.op= .buildSlice t m parts) (hp:tP E g a ps parts.toList) (h:tG X b s t m ps K):
  ∃ v w',(execOp a.eval o).run X.P w= .ok (.value v) w'/\Out n W F b E g a K v w':=by
 unfold tG at h;split at h
 .grind [Im]
 .rename_i et e ie V9;obtain ⟨ht,mN,mM⟩:=aaw V9;split at h
  .grind
  .rename_i z hz;obtain ⟨i',z0,aae,GW,hzc⟩:=EH (E:=E) (g:=g) hz;rw [mN] at aae;obtain rfl:=aj aae;obtain ⟨Dk,h⟩:=dc h;rw [ao,ao] at Dk;obtain ⟨⟨vX,za⟩,hc3⟩:=Dk;have hsm:m*ie.size<=16777216:=eU vX;have hzs:z0.cells.size=ie.size:=by
    have:=hzc.length;simp_all
   have hm0:m*ie.size=0->m=0:=λh0=>by
    rcases Nat.mul_eq_zero.1 h0 with h| h;exact h;simp_all
   split at h
   .grind
   .rename_i cs hf;obtain ⟨ve,h1,h2⟩:=xn hf hp (yc hzc m);have aaa:(parts.map λ(i,x)=>(i,a.eval x)).toList=parts.toList.map λq=>(q.1,a.eval q.2):=by simp
    have hr:(Instr.buildSlice t m (parts.map λ(i,x)=>(i,a.eval x))).run X.P w= .ok (.slice (some ⟨w.heap.size,0,none⟩) m m) (w.alloc (.cells ve.toArray et)):=by
     by_cases h0:m*ie.size=0
     .obtain rfl:=hm0 h0;have h1':Instr.fill (λi=>some (i*ie.size,ie.size)) #[] (parts.toList.map λq=>(q.1,a.eval q.2))=some ve.toArray:=h1;have GW:(Array.map (λ(_:Nat)=>(default:Value)) (Array.range 0))= #[]:=by simp
      simp [Instr.buildSlice,run_underlying ht,sizeOf,typeInfo,mN,newRow,GW,h1']
     grind [run_buildSlice,Gq]
    have jt:(execOp a.eval o).run X.P w= .ok (.value (.slice (some ⟨w.heap.size,0,none⟩) m m)) (w.alloc (.cells ve.toArray et)):=by
     simp_all [execOp]
    obtain ⟨g',s',zg,m',S',h3,h⟩:=gG S h2 h;cases Aj:M8 e m zg with
    | none=>grind
    | some xs=>
    rw [Aj] at h;obtain ⟨css,h4,h5,h6⟩:=M7 m Aj h3;have H:=S'.sat.sl.new (xH.mk' w (.cells ve.toArray et));have JI:m<=maxLen:=by
     unfold maxLen;rcases Nat.eq_zero_or_pos ie.size with h| h
     .grind
     .have:=Nat.le_mul_of_pos_right m h;omega
    have H2:=akQ H h4 h5 h6 JI;refine ⟨_,_,jt,E++ [.slice (some ⟨w.heap.size,0,none⟩) m m],g',_,_,bu.app E _,m',S'.new (v:=.slice (some ⟨w.heap.size,0,none⟩) m m) (bt.refl g') ?_,(show dd _ g' (.c (.o s'.n)) _ from ⟨dX S' _,_,_,_,rfl⟩),h⟩;exact H2.cv λk ⟨k1,k2,ap,q,s1,s2⟩=>⟨k1,k2,ap,q,⟨_,dX S' _,s1⟩,s2⟩
theorem Cj {P:Program} {src dst e:TypeId} {z:ByteArray} (hs:P.underlying src=some .string) (hd:P.underlying dst=some (.slice e)) (he:P.underlying e=some (.int .u8)) (hz:z.size<=maxLen):
  ∃ v w',(convert src dst (.string z)).run P w= .ok v w'/\Le w w'/\od .u8 (oQ g w w') v z.data.toList:=by
 have hr:=run_bytes_of_string (P:=P) w src dst e z hs hd he;generalize hW:w.drew.alloc (.cells (bytesRow z (grownCap w z.size 0 e)) e ((bytesRow z (grownCap w z.size 0 e)).size,(bytesRow z (grownCap w z.size 0 e)).size+1))=w1 at hr;have hle:Le w w1:=by rw [<-hW];exact (Le.drew w).trans (xH.mk' w.drew _).le
 refine ⟨_,w1,hr,hle,?_⟩;have hlen:z.data.toList.length=z.size:=by rfl
 refine (dE (α:=UInt8)).2 (.inr ⟨⟨w.heap.size,0,none⟩,grownCap w z.size 0 e,by rw [hlen],by grind [grownCap_ge],by grind [grownCap_le_maxLen],λi x hx=>⟨[.int .u8 x.toNat],λj c hj=>?_,rfl⟩⟩);rw [Addr.add_mid,G5 _ (aG _)]
 match j,hj with
 | 0,hj=>
  have hc:(bytesRow z (grownCap w z.size 0 e))[i]?=some (.int .u8 x.toNat):=by
   grind [bytesRow]
  simp only [aQ.size,Nat.mul_one,Nat.add_zero];have hh:w1.heap[w.heap.size]?=some (.cells (bytesRow z (grownCap w z.size 0 e)) e ((bytesRow z (grownCap w z.size 0 e)).size,(bytesRow z (grownCap w z.size 0 e)).size+1)):=by rw [<-hW];exact heap_alloc_new w.drew _
  grind [World.cell?]
end
section
variable {P:Program} {W:cV} {g w w':World} {l:List Atom}
theorem SL.ajS {b:Nat} {cs:Array Value} {t:TypeId} {r:Nat×Nat} (H:SL W g w (obj b (.cells cs t r)::l)):∃ g',bt g g'/\SL W g' w l/\(∀ i,g'.cell? ⟨b,i,none⟩=cs[i]?):=by
 obtain ⟨hW,hw,hn⟩:=H.Ey;obtain ⟨h,be,s,o,h1,h2,ap,rfl,s1,s2⟩:=H;have fB:b< w.heap.size:=(aO.1 hw).1;have m:bt g (rF g w.heap.size b (.cells cs t r)):=λa v hv=>by
  have ja:a.block≠b:=λe=>by rw [hn a e] at hv;cases hv
  rw [jK s.size a ja];exact hv
 have hc:∀ (i:Nat) (sp),(rF g w.heap.size b (.cells cs t r)).cell? ⟨b,i,sp⟩=w.cell? ⟨b,i,sp⟩:=by simp_all [World.cell?,rF]
 refine ⟨rF g w.heap.size b (.cells cs t r),m,⟨h2,be,⟨⟨by simp [rF],λa v hv=>?_⟩,λa ha=>?_⟩,λk x hx=>?_,s2.mono m⟩,λi=>?_⟩
 .by_cases e:a.block=b
  .have:a=⟨b,a.off,a.spot⟩:=by cases a;simp_all
   grind
  .rw [jK s.size a e] at hv;exact s.mono a v hv
 .have ja:a.block≠b:=by grind
  rw [jK s.size a ja];exact s.agr a ha
 .have h1k:h1 k=none:=by
   rcases ap k with e| e;exact e
   grind
  obtain ⟨o1,o2,o3⟩:=o k x (by rw [Hp.mz h1k];exact hx);refine ⟨o1,o2,λa ha=>?_⟩;have hkb:k≠b:=λe=>by
   subst e;rw [show h1 k=some _ from s1] at h1k;grind
  rw [jK s.size a (by omega)];exact o3 a ha
 grind [World.cell?]
theorem AD {b n c:Nat} {cs:Array Value} {t e:TypeId} (hb:HN w b cs e) (ht:P.underlying t=some (.slice e)) (he:P.underlying e=some (.int .u8)):
  ∃ w',(convert t t (.slice (some ⟨b,0,none⟩) n c)).run P w= .ok (.slice (some ⟨b,0,none⟩) n c) w'/\qy w b (.cells cs e (cs.size,cs.size+1)) w':=by
 have fB:b< w.heap.size:=(aO.1 hb).1;have hg:w.heap[b]= .cells cs e (0,0):=(aO.1 hb).2;have hsh:w.shape? b=some (e,cs.size):=by
  grind [World.shape?]
 refine ⟨w.freeze ⟨b,cs.size,none⟩ 1,?_,?_,fB⟩
 .simp_all [convert,run_underlying,markStringish]
 .unfold World.freeze;rw [if_neg (by decide)];congr 1
  grind
end
section
variable {X:Vx} {n:Nat} {W:cV} {F:List Atom} {b:Bs} {E:Env} {g w:World} {s:Ov} {a:Act} {o:Oper}
theorem aed {α:Type} [aQ α] {P:Program} {W:cV} {g w:World} {l:List Atom} {t e:TypeId} {v:Value} {xs:List α} (H:SL W g w (B6 e v xs::l)) (hx:xs≠ []) (ht:P.underlying t=some (.slice e)) (he:P.underlying e=some (.int .u8)):
  ∃ w' g',(convert t t v).run P w= .ok v w'/\bt g g'/\SL W g' w' l/\Is g' v xs:=by
 obtain ⟨cs,r,H1⟩:=H.pD;rcases H1.ofRow with ⟨rfl,hn,_,H2⟩| ⟨k,cap,cur,rfl,h1,h2,h3,h4,H2⟩
 .grind
 .obtain ⟨w',hr,u⟩:=AD (n:=xs.length) (c:=cap) (H2.pc 0) ht he;obtain ⟨g',m,H3,hc⟩:=(H2.BU 0 u).ajS;refine ⟨w',g',hr,m,H3,dE.2 (.inr ⟨⟨k,0,none⟩,cap,rfl,h1,h2,λi x hx=>?_⟩)⟩;obtain ⟨c,hr2,TA⟩:=r.get i x hx;refine ⟨c,λj v hj=>?_,aQ.mono m hr2⟩
  grind [Addr.add_mid]
theorem YU (S:df n W F b E g w s a) {src dst e e0:TypeId} {l:Nat} {x:Operand} {K:SV->Ov->Prop} (ho:o.op= .convert src dst x) (hs:X.P.underlying src=some (.slice e0)) (hd:X.P.underlying dst=some (.slice e)) (r:ck E g (.o l) (a.eval x)) (h:ajw X b s src dst e l K):
  ∃ v w',(execOp a.eval o).run X.P w= .ok (.value v) w'/\Out n W F b E g a K v w':=by
 obtain ⟨hsd,h1⟩:=dc h;have hsd:=ai hsd;cases he:X.P.underlying e with
 | none=>grind
 | some d=>
  rw [he] at h1;split at h1
  .rename_i hde;have hde:=aj hde;subst hde;cases eD:b.obj s l with
   | sl et ety xs=>
    rw [eD] at h1;obtain ⟨het,h2⟩:=dc h1;have het:=ai het;subst het;cases hy:zw .u8 xs with
    | none=>grind
    | some ys=>
     obtain ⟨q,e1⟩:=eB hy;subst q;obtain ⟨hx,hk⟩:=h2;obtain ⟨w',g',hr,m,H1,hi⟩:=aed (α:=Ty.u8.den) (j5 S r.1 eD) hx hd he;exact ⟨_,w',by simp_all [execOp],E,g',s.dR l .gone,_,bu.refl E,m,S.back r.1 .gone m (H1.cv λk s2=>⟨λ_=>none,k,λ_=>.inl rfl,rfl,trivial,s2⟩),(show dd E g' (.c (.d .u8 _)) _ from hi),hk⟩
   | _=>grind
  grind
theorem Vs (S:df n W F b E g w s a) {src dst:TypeId} {x:Operand} {c:SV} {K:SV->Ov->Prop} (ho:o.op= .convert src dst x) (r:dd E g c (a.eval x)) (h:oV X b s src dst c K):
  ∃ v w',(execOp a.eval o).run X.P w= .ok (.value v) w'/\Out n W F b E g a K v w':=by
 have same:∀ {v:Value} {sv:SV},(convert src dst (a.eval x)).run X.P w= .ok v w->dd E g sv v->K sv s->∃ v w',(execOp a.eval o).run X.P w= .ok (.value v) w'/\Out n W F b E g a K v w':=λ{v sv} h1 h2 h3=>
  ⟨v,w,by simp_all [execOp],E,g,s,sv,bu.refl E,bt.refl g,S,h2,h3⟩
 unfold oV at h;split at h
 .rename_i k1 k k' m hs hd;obtain ⟨hx,hm⟩:=il r;have hr:(convert src dst (a.eval x)).run X.P w= .ok (.int k (k.wrap m)) w:=by
   simp_all [convert,run_underlying,Conv.intToInt]
  split at h
  .rename_i hk;obtain rfl:=IntKind.eq_of_beq hk
   grind [pO]
  .split at h
   .rename_i hw;have hn:=EK hw hm;rw [pO hn] at hr;exact same hr (dH hn) h
   .exact same hr (dH (ez _ _)) (h (ez _ _))
 .rename_i z hs hd;obtain ⟨hx,hz⟩:=r;refine same (v:=.string z) (sv:=.str z) (by simp_all [convert,run_underlying]) ⟨rfl,hz⟩ h
 .rename_i k k1 m hs hd;obtain ⟨hx,_⟩:=il r;obtain ⟨hl,h⟩:=h;refine same (v:=.string (Utf8.encode m)) (sv:=.str (Utf8.encode m)) ?_ ⟨rfl,hl⟩ h;simp_all [convert,run_underlying,Conv.intToString]
 .rename_i e z hs hd;obtain ⟨hx,hz⟩:=r;split at h
  .rename_i he;obtain ⟨v,w',h1,h2,h3⟩:=Cj (P:=X.P) (g:=g) (w:=w) hs hd he hz;have m:=Dm S.sat.sl.uE h2;refine ⟨v,w',by simp_all [execOp],E,oQ g w w',s,_,bu.refl E,m,⟨S.size,S.defers,λt u hu=>(S.fr t u hu).mono (bu.refl E) m,⟨S.sat.sl.aeo h2,S.sat.len⟩,S.top⟩,by assumption,h⟩
  grind
 .rename_i e y hs hd;split at h
  .rename_i he;split at h
   .rename_i l hl;obtain ⟨_,hi⟩:=ug S r hl;have hr:=Ce (l:=l) hi hs he hd;refine same hr (sv:=.str (fY l)) ⟨rfl,?_⟩ h;have:=lJ hi
    assumption
   grind
  grind
 .rename_i hs hd;exact YU S ho hs hd r h
 grind
theorem SC {mn:Bool} {x y:Operand} {t u:TypeId} {c d:SV} {K:SV->Prop} (ho:o.op= .call {callee:=.builtin (if mn then .min else .max),args:= #[x,y],argTypes:= #[t,u]}) (rx:dd E g c (a.eval x)) (ry:dd E g d (a.eval y)) (h:mmV mn c d K):ER X.P o a w E g K:=by
 unfold mmV at h;split at h
 .rename_i k m k' m';obtain ⟨hx,h1⟩:=il rx;obtain ⟨hy,h2⟩:=il ry;obtain ⟨hk,h0⟩:=dc h;obtain rfl:=IntKind.eq_of_beq hk;have h3:∀ q,q=m\/q=m'->aB k q:=by grind
  cases mn;exact ⟨_,_,an5 ho hx hy,dH (h3 _ (by omega)),h0⟩;exact ⟨_,_,an4 ho hx hy,dH (h3 _ (by omega)),h0⟩
 grind
end
section
variable {X:Vx} {n:Nat} {W:cV} {F F':List Atom} {b:Bs} {E:Env} {g g' w w':World} {s:Ov} {a:Act} {o:Oper}
theorem zf:∀ {A B:List Atom} {l:Nat},l< A.length->dJ (A++B) l=dJ A l++B
 | _::_,_,0,_=>rfl
 | x::A,B,l+1,h=>by
  show x::dJ (A++B) l=x::(dJ A l++B);rw [zf (by simpa using h)]
theorem GZ (S:df n W F b E g w s a) {l:Nat} {v:Value} (h:E[l]?=some v):l< (a8 E 0 (b.heap s)).length:=by
 rw [uZ,dW];exact S.lt h
theorem df.anD (S:df n W F b E g w s a) {l:Nat} {v:Value} (h:E[l]?=some v) {A:Atom} (m:bt g g') (H:SL W g' w' (A::dJ (a8 E 0 (b.heap s)++F) l)):df n W (A::F) b E g' w' (s.dR l .gone) a:=by
 have hl:=S.lt h;refine ⟨S.size,S.defers,λt v hv=>(S.fr t v hv).mono (bu.refl E) m,⟨?_,by rw [S.len,dW];rfl⟩,λk hk=>?_⟩
 .rw [jx hl];refine H.cv λk s1=>?_;rw [zf (GZ S h)] at s1;have s2:=bd.toEnd s1;have hn:wX (a8 E 0 (b.heap s)++(A::F)) l=some (cF E l (b.obj s l)):=by
   simp_all [jT,eL]
  have s3:bd g' (tf True::dJ (a8 E 0 (b.heap s)++(A::F)) l) k:=by
   rw [zf (GZ S h)];exact ⟨λ_=>none,k,λ_=>.inl rfl,rfl,trivial,s2⟩
  have h3:=kM (E:=E) (F:=A::F) (k:=0) (o':=.gone) (l:=l) (H:=b.heap s) (by grind [dW]);rw [<-h3];exact bd.ou hn s3
 .rw [jr,if_neg (by have:s.n<=k:=hk;omega)];exact S.top k hk
end
section
variable {X:Vx} {n:Nat} {W:cV} {F:List Atom} {b:Bs} {E:Env} {g w:World} {s:Ov} {a:Act} {o:Oper}
theorem A6 {P:Program} {t:TypeId} {k:Kk} (h:ke P t k=true): @xJ P t k.den k.key:=by
 grind [ke,xe,ZM]
theorem aeN {P:Program} {t:TypeId} {k:Kk} (h:ajy P t=some k):ke P t k=true:=by
 grind [ajy,ke]
theorem Db:∀ {k:Kk} {c:Cl} {x:k.den} {u:Value},xg k c=some x->ck E g c u->u= @dK.val k.den k.key x/\ @dK.ok k.den k.key x
 | .int,c,x,u,h,r=>by
  dsimp only [xg] at h;split at h
  .cases h;obtain ⟨rfl,h2⟩:=r;exact ⟨rfl,oO.1 h2⟩
  grind
 | .str,c,x,u,h,r=>by
  dsimp only [xg] at h;split at h
  .cases h
   assumption
  grind
theorem aek {e:Ty} {v:S1} {x:e.den} {u:Value} (h:amC e v=true) (hu:bz E g v.cells u.cells.toList) (r:gr E g v u) {cs:List Cl} (yZ:bz E g cs u.cells.toList) (ho:e.of cs=some (x,[])):IsV g e u x:=by
 obtain ⟨u1,u2,e1,h1,h2⟩:=of_cells e ho yZ;obtain rfl:u2= []:=h2;rw [bf] at e1;subst e1;cases v with
 | agg l=>
  have h:e.row=true:=h;obtain ⟨us,_,rfl⟩:=r;refine ⟨_,h1,?_⟩;rw [if_pos h];rfl
 | c c=>
  have h:(!e.row)=true:=h;have hr:ck E g c u:=r;refine ⟨_,h1,?_⟩;rw [if_neg (by simpa using h),nY hr.one]
theorem aej {e:Ty} {x:e.den} {r:S1} {u:Value} (h:aja e x=some r) (hv:IsV g e u x):gr E g r u/\e.ok x:=by
 obtain ⟨cs,h1,h2⟩:=hv;obtain ⟨h3,h4⟩:=ft E g e h1;refine ⟨?_,h4⟩;unfold aja at h;split at h
 .rename_i hr;rw [if_pos hr] at h2;cases h;exact ⟨cs,h3,h2⟩
 .rename_i hr;rw [if_neg hr] at h2;split at h
  .rename_i c hc;cases h;rw [hc,h2] at h3;obtain ⟨u',r',e1,h5,h6⟩:=h3;obtain rfl:u=u':=by grind
   exact h5
  grind
theorem afj {P:Program} {t:TypeId} {e:Ty} {x:e.den} (h:akf P t e=some x):∃ z,(zeroValue t).run P w= .ok z w/\IsV g e z x:=by
 unfold akf at h;split at h
 .split at h
  .rename_i z hz;split at h
   .rename_i hzo;split at h
    .rename_i zl OT;split at h
     .rename_i y hy;cases h;have hc:bz ([]:Env) g zl z.cells.toList:=kY OT;obtain ⟨u1,u2,e1,h1,h2⟩:=of_cells e hy hc;obtain rfl:u2= []:=h2;rw [bf] at e1;refine ⟨z,?_,u1,h1,?_⟩
      .simp_all [zeroValue,typeInfo]
      .unfold zOk at hzo;split at hzo
       .rw [if_pos hzo,<-e1];rfl
       grind [nY]
     grind
    grind
   grind
  grind
 grind
theorem C4 {k:Kk} {e:Ty} (x:k.den):∀ {l:List (k.den×Value)} {xs:List (k.den×e.den)},rW g k e l xs->match @iS k.den k.key _ l x,k.get xs x with
  | some u,some y=>IsV g e u y
  | none,none=>True
  | _,_=>False
 | [],xs,h=>by
  rw [show xs= [] from h];trivial
 | p::l,xs,⟨y,r,q,h1,h2⟩=>by
  letI:=k.key;have ih:=C4 x h2;have e1: @iS k.den k.key _ (p::l) x=if p.1=x then some p.2 else @iS k.den k.key _ l x:=by
   grind [iS]
  have e2:k.get ((p.1,y)::r) x=if p.1=x then some y else k.get r x:=by
   grind [Kk.get,iS]
  grind
theorem GI {k:Kk} {e:Ty} (x:k.den):∀ {l:List (k.den×Value)} {xs:List (k.den×e.den)},rW g k e l xs->rW g k e (@pf k.den k.key _ l x) (k.del xs x)
 | [],xs,h=>by
  rw [show xs= [] from h];rfl
 | p::l,xs,⟨y,r,q,h1,h2⟩=>by
  subst q;have ih:=GI x h2;unfold Kk.del pf at ih ⊢;rw [List.filter_cons,List.filter_cons];by_cases e:p.1=x
  .grind
  .simp only [e,decide_false,Bool.not_false,if_true];exact ⟨y,_,rfl,h1,ih⟩
theorem Pm {t:TypeId} {x:Operand} {c:Cl} {K:SV->Prop} (ho:o.op= .makeInterface t x) (rx:ck E g c (a.eval x)) (h:Qg X.P t c K):ER X.P o a w E g K:=by
 unfold Qg at h;split at h
 .grind
 .refine ⟨.iface t (a.eval x),.c (.Ee t c),?_,⟨a.eval x,rx,rfl⟩,h⟩;simp_all [Instr.makeInterface,run_underlying,execOp]
 grind
theorem Kq {t:TypeId} {z:SV} (h:zeroV X.P t=some z):∃ v,(zeroValue t).run X.P w= .ok v w/\dd E g z v:=by
 unfold zeroV at h;split at h
 .split at h
  .simp_all [zeroValue,typeInfo,Hg]
  grind
 grind
theorem Mw {t t0:TypeId} {x:Operand} {c:Cl} {K:SV->Prop} (ho:o.op= .typeAssert x t0 t true) (rx:ck E g c (a.eval x)) (h:J9 X.P t c K):ER X.P o a w E g K:=by
 unfold J9 at h;split at h
 .grind
 .have two:∀ {z:S1} {v:Value} {q:Bool},gr E g z v->dd E g (.cC [z,.c (.k (.bool q))]) (.tuple #[v,.bool q]):=λ{z v q} r=>⟨[v,.bool q],⟨_,_,rfl,r,_,[],rfl,⟨rfl,rfl⟩,rfl⟩,rfl⟩;split at h
  .rename_i t' c';obtain ⟨v,h1,h2⟩:=rx;split at h
   .rename_i ht;refine ⟨.tuple #[v,.bool true],_,?_,two (z:=.c c') h1,h⟩;simp_all [Instr.typeAssert,run_underlying,execOp]
   .split at h
    .rename_i z hz;obtain ⟨u,hu,hr⟩:=Kq (w:=w) (E:=E) (g:=g) hz;refine ⟨.tuple #[u,.bool false],_,?_,two hr,h⟩;simp_all [Instr.typeAssert,run_underlying,execOp]
    grind
  .obtain ⟨hx,_⟩:=rx;split at h
   .rename_i z hz;obtain ⟨u,hu,hr⟩:=Kq (w:=w) (E:=E) (g:=g) hz;refine ⟨.tuple #[u,.bool false],_,?_,two hr,h⟩;simp_all [Instr.typeAssert,run_underlying,execOp]
   grind
  grind
 grind
theorem Mx {t t0:TypeId} {x:Operand} {c:Cl} {K:SV->Prop} (ho:o.op= .typeAssert x t0 t false) (rx:ck E g c (a.eval x)) (h:Ka X.P t c K):ER X.P o a w E g K:=by
 unfold Ka at h;split at h
 .grind
 .split at h
  .rename_i t' c';obtain ⟨v,h1,h2⟩:=rx;split at h
   .rename_i ht;refine ⟨v,.c c',?_,h1,h⟩;simp_all [Instr.typeAssert,run_underlying,execOp]
   grind
  grind
 grind
theorem Ij (S:df n W F b E g w s a) {t:TypeId} {K:SV->Ov->Prop} (ho:o.op= .makeMap t none) (h:C5 X s t K):∃ v w',(execOp a.eval o).run X.P w= .ok (.value v) w'/\Out n W F b E g a K v w':=by
 unfold C5 at h;split at h
 .rename_i k et ht;split at h
  .rename_i kk e hk he;letI:=kk.key;refine ⟨_,_,zA ho,_,g,_,_,bu.app E [ptr w.heap.size 0],bt.refl g,S.new (v:=ptr w.heap.size 0) (bt.refl g) ?_,(show dd _ g (.c (.m s.n)) _ from ⟨w.heap.size,dX S _,rfl⟩),h⟩;have H:=S.sat.sl.P6 (P:=X.P) (k:=k) (κ:=kk.den) (xH.mk' w (.map #[] 0));exact H.cv λq ⟨k1,k2,ap,q2,s1,s2⟩=>⟨k1,k2,ap,q2,⟨w.heap.size,[],dX S _,rfl,X.P,aeN hk,s1⟩,s2⟩
  .split at h
   .rename_i q hk3 _;refine ⟨_,_,zA ho,_,g,_,_,bu.app E [ptr w.heap.size 0],bt.refl g,S.new (v:=ptr w.heap.size 0) (bt.refl g) ?_,(show dd _ g (.c (.m s.n)) _ from ⟨w.heap.size,dX S _,rfl⟩),h⟩;have H:=S.sat.sl.P6 (P:=X.P) (k:=k) (κ:=K3) (xH.mk' w (.map #[] 0));exact H.cv λq ⟨k1,k2,ap,q2,s1,s2⟩=>⟨k1,k2,ap,q2,⟨_,dX S _,(w.heap.size,X.P),λ_=>none,k1,λ_=>.inl rfl,rfl,⟨rfl,hk3⟩,k1,λ_=>none,λ_=>.inr rfl,by funext z;unfold Hp.join;cases k1 z<;>rfl,s1,trivial⟩,s2⟩
   .split at h
    .rename_i tR e _;have hQ:=dc h;obtain ⟨hk,h⟩:=hQ;refine ⟨_,_,zA ho,_,g,_,_,bu.app E [ptr w.heap.size 0],bt.refl g,S.new (v:=ptr w.heap.size 0) (bt.refl g) ?_,(show dd _ g (.c (.m s.n)) _ from ⟨w.heap.size,dX S _,rfl⟩),h⟩;have H:=S.sat.sl.P6 (P:=X.P) (k:=k) (κ:=Int) (xH.mk' w (.map #[] 0));exact H.cv λq ⟨k1,k2,ap,q2,s1,s2⟩=>⟨k1,k2,ap,q2,⟨_,dX S _,(w.heap.size,X.P),λ_=>none,k1,λ_=>.inl rfl,rfl,⟨rfl,lG hk⟩,k1,λ_=>none,λ_=>.inr rfl,by funext z;unfold Hp.join;cases k1 z<;>rfl,s1,trivial⟩,s2⟩
    .cases h
 .cases h
theorem PZ {t:TypeId} (h:Js X.P t=true):(zeroValue t).run X.P w= .ok (.pointer none) w:=by
 unfold Js at h;split at h
 .split at h
  .simp_all [zeroValue,typeInfo]
  grind
 grind
theorem Mo (S:df n W F b E g w s a) {t:TypeId} {x y:Operand} {c:Bool} {mx ky:Cl} {K:SV->Prop} (ho:o.op= .lookup t x y c) (rx:ck E g mx (a.eval x)) (ry:ck E g ky (a.eval y)) (h:Ju X b s t mx ky c K):ER X.P o a w E g K:=by
 unfold Ju at h;split at h
 .rename_i k et ht;split at h
  .rename_i l;obtain ⟨bb,hE,hx⟩:=rx;split at h
   .rename_i k' kk e xs eD;obtain ⟨hk,h5⟩:=dc h;rw [ao] at hk;obtain ⟨tz,r7⟩:=hk;obtain rfl:=ai tz;split at h5
    .rename_i z q hz hq;have h6:=h5;split at h6
     .rename_i r hr;obtain ⟨m,h1,H⟩:=Q9 S hE eD r7;letI:=kk.key;obtain ⟨hy,sa⟩:=Db hq ry;obtain ⟨zv,hzr,hzi⟩:=afj (w:=w) (g:=g) hz;have hl:=H.aeK c (A6 r7) ht hzr q sa;have hf:=C4 (e:=e) q h1;have hv:IsV g e ((iS m q).getD zv) ((kk.get xs q).getD z)/\(iS m q).isSome=(kk.get xs q).isSome:=by
       revert hf;cases iS m q<;>cases kk.get xs q<;>intro hf;exact ⟨hzi,rfl⟩;exact hf.elim;exact hf.elim;exact ⟨hf,rfl⟩
      obtain ⟨h2,h3⟩:=aej (E:=E) hr hv.1;have hK:=h6 h3;refine ⟨_,_,xF ho hx hy hl,?_,hK⟩;cases c with
      | true=>
       refine ⟨[_,_],⟨_,_,rfl,h2,_,[],rfl,?_,rfl⟩,rfl⟩;rw [hv.2];exact (show gr E g (.c (.k (.bool _))) _ from ⟨rfl,rfl⟩)
      | false=>exact h2
     .exact h6.elim
    .exact h5.elim
   .cases h
  .cases h
 .cases h
theorem zV (S:df n W F b E g w s a) {t:TypeId} {x y z:Operand} {mx ky:Cl} {v:S1} {K:Ov->Prop} (ho:o.op= .mapUpdate t x y z) (rx:ck E g mx (a.eval x)) (ry:ck E g ky (a.eval y)) (rz:gr E g v (a.eval z)) (h:w8 X b s t mx ky v K):
  ∃ w',(execOp a.eval o).run X.P w= .ok .skip w'/\∃ g' s',bt g g'/\df n W F b E g' w' s' a/\K s':=by
 unfold w8 at h;split at h
 .rename_i k et ht;split at h
  .rename_i l;obtain ⟨bb,hE,hx⟩:=rx;obtain ⟨g1,s1,cs,m1,S1,yZ,h⟩:=gG S rz.cells h;split at h
   .rename_i k' kk e xs eD;obtain ⟨hk,h5⟩:=dc h;simp only [ao] at hk;obtain ⟨⟨tz,r7⟩,hk3⟩:=hk;obtain rfl:=ai tz;split at h5
    .rename_i q x' hq hof;obtain ⟨hlen,h6⟩:=h5;obtain ⟨m,h1,H⟩:=Q9 S1 hE eD r7;letI:=kk.key;obtain ⟨hy,sa⟩:=Db hq ry;obtain ⟨w',hr,H2⟩:=H.P5 (A6 r7) ht (by rw [h1.length];exact hlen) q sa (a.eval z);have hiv:IsV g1 e (a.eval z) x':=aek (E:=E) hk3 (rz.cells.mono (bu.refl E) m1) (rz.mono (bu.refl E) m1) yZ hof;have S2:df n W F b E g1 w' (s1.dR l (.map k kk e (kk.put xs q x'))) a:=S1.back hE _ (bt.refl g1) (H2.cv λq0 ⟨k1,k2,ap,q2,s1',s2⟩=>⟨k1,k2,ap,q2,(show (cF E l (.map k kk e (kk.put xs q x'))).sat g1 k1 from ⟨bb,qY m q (a.eval z),hE,⟨x',kk.del xs q,rfl,hiv,GI q h1⟩,X.P,r7,s1'⟩),s2⟩);exact ⟨w',OI ho hx hy rfl hr,g1,_,m1,S2,h6⟩
    .exact h5.elim
   .cases h
  .cases h
 .cases h
theorem Mu (S:df n W F b E g w s a) {t:TypeId} {x y z:Operand} {mx ky:Cl} {v:S1} {K:Ov->Prop} (ho:o.op= .insert t x y z) (rx:ck E g mx (a.eval x)) (ry:ck E g ky (a.eval y)) (rz:gr E g v (a.eval z)) (h:w8 X b s t mx ky v K):
  ∃ w',(execOp a.eval o).run X.P w= .ok .skip w'/\∃ g' s',bt g g'/\df n W F b E g' w' s' a/\K s':=by
 obtain ⟨w',h1,h2⟩:=zV (o:= {o with op:=.mapUpdate t x y z}) S rfl rx ry rz h
 grind [execOp]
end
def bA (E:Env) (g:World):List SV->List Value->Prop
 | [],us=>us= []
 | c::l,us=>∃ u r,us=u::r/\dd E g c u/\bA E g l r
def WpW (W:cV) (P:Program) (f:FuncId) (args:List SV) (H:List HO) (Q:SV->List HO->Prop):Prop:=
 ∀ (g w:World) (E:Env) (F:List Atom) (vs:List Value),Sat W E g w H F->bA E g args vs->
  HM P f vs.toArray w λv w'=>∃ E' g' sv H',bu E E'/\bt g g'/\Sat W E' g' w' H' F/\dd E' g' sv v/\Q sv H'
def Wp (I:cV->Prop) (P:Program) (f:FuncId) (args:List SV) (H:List HO) (Q:SV->List HO->Prop):Prop:=∀ W,I W->WpW W P f args H Q
section
variable {W:cV} {F:List Atom} {E E':Env} {g w:World}
def mR (r:Nat->Option Nat) (E E':Env):Prop:=∀ l l' v,r l=some l'->E[l]?=some v->E'[l']?=some v
mutual
theorem ck.fj {r:Nat->Option Nat} (hr:mR r E E'):∀ {c:Cl} {u:Value},ck E g c u->ck E' g (c.fj r) u
 | .k _,_,h=>h
 | .d _ _,_,h=>h
 | .de _ _ _ _,_,h=>h
 | .Km,_,h=>h
 | .p l off,u,h=>by
  have h1:=ck.one h;obtain ⟨b,h2,h3⟩:=h;unfold Cl.fj;cases hl:r l with
  | none=>exact h1
  | some l'=>exact ⟨b,hr _ _ _ hl h2,h3⟩
 | .o l,u,h=>by
  have h1:=ck.one h;obtain ⟨h2,h3⟩:=h;unfold Cl.fj;cases hl:r l with
  | none=>exact h1
  | some l'=>exact ⟨hr _ _ _ hl h2,h3⟩
 | .os l sz lo hi,u,h=>by
  have h1:=ck.one h;obtain ⟨v,h2,h3⟩:=h;unfold Cl.fj;cases hl:r l with
  | none=>exact h1
  | some l'=>exact ⟨v,hr _ _ _ hl h2,h3⟩
 | .oe l sz i off,u,h=>by
  have h1:=ck.one h;obtain ⟨v,h2,h3⟩:=h;unfold Cl.fj;cases hl:r l with
  | none=>exact h1
  | some l'=>exact ⟨v,hr _ _ _ hl h2,h3⟩
 | .m l,u,h=>by
  have h1:=ck.one h;obtain ⟨b,h2,h3⟩:=h;unfold Cl.fj;cases hl:r l with
  | none=>exact h1
  | some l'=>exact ⟨b,hr _ _ _ hl h2,h3⟩
 | .sc l off n,u,h=>by
  have h1:=ck.one h;obtain ⟨b,c,h2,h3⟩:=h;unfold Cl.fj;cases hl:r l with
  | none=>exact h1
  | some l'=>exact ⟨b,c,hr _ _ _ hl h2,h3⟩
 | .kl l v,u,h=>by
  have h1:=ck.one h;obtain ⟨⟨x,h2⟩,h3⟩:=h;unfold Cl.fj;cases hl:r l with
  | none=>exact h1
  | some l'=>exact ⟨⟨x,hr _ _ _ hl h2⟩,h3⟩
 | .fn f caps,_,⟨us,h1,h2⟩=>⟨us,bz.fj hr h1,h2⟩
 | .Ee t c,_,⟨v,h1,h2⟩=>⟨v,ck.fj hr h1,h2⟩
theorem bz.fj {r:Nat->Option Nat} (hr:mR r E E'):∀ {l:List Cl} {us:List Value},bz E g l us->bz E' g (Cl.wL r l) us
 | [],_,h=>h
 | _::_,_,⟨u,q,e,h1,h2⟩=>⟨u,q,e,ck.fj hr h1,bz.fj hr h2⟩
end
theorem gr.fj {r:Nat->Option Nat} (hr:mR r E E'):∀ {x:S1} {u:Value},gr E g x u->gr E' g (x.fj r) u
 | .c _,_,h=>ck.fj hr h
 | .agg _,_,⟨us,h1,h2⟩=>⟨us,bz.fj hr h1,h2⟩
theorem ir.fj {r:Nat->Option Nat} (hr:mR r E E'):∀ {l:List S1} {us:List Value},ir E g l us->ir E' g (S1.wL r l) us
 | [],_,h=>h
 | _::_,_,⟨u,q,e,h1,h2⟩=>⟨u,q,e,gr.fj hr h1,ir.fj hr h2⟩
theorem dd.fj {r:Nat->Option Nat} (hr:mR r E E'):∀ {x:SV} {u:Value},dd E g x u->dd E' g (x.fj r) u
 | .v _,_,h=>gr.fj hr h
 | .cC _,_,⟨us,h1,h2⟩=>⟨us,ir.fj hr h1,h2⟩
 | .any,_,_=>trivial
 | .arr _ _,_,h=>h
theorem bA.fj {r:Nat->Option Nat} (hr:mR r E E'):∀ {l:List SV} {us:List Value},bA E g l us->bA E' g (l.map (·.fj r)) us
 | [],_,h=>h
 | _::_,_,⟨u,q,e,h1,h2⟩=>⟨u,q,e,dd.fj hr h1,bA.fj hr h2⟩
theorem cF.fj {r:Nat->Option Nat} (hr:mR r E E') {l l':Nat} (hl:r l=some l'):∀ {o:HO} {h:Hp},(cF E l o).sat g h->(cF E' l' (o.fj r)).sat g h
 | .cells _ _,_,⟨b,us,h1,h2,h3⟩=>⟨b,us,hr _ _ _ hl h1,bz.fj hr h2,h3⟩
 | .sl _ _ _,_,⟨v,h1,h2⟩=>⟨v,hr _ _ _ hl h1,h2⟩
 | .held _ _ _,_,⟨v,h1,h2⟩=>⟨v,hr _ _ _ hl h1,h2⟩
 | .map ..,_,⟨b,m,h1,h2⟩=>⟨b,m,hr _ _ _ hl h1,h2⟩
 | .abs _,_,⟨v,h1,h2⟩=>⟨v,hr _ _ _ hl h1,h2⟩
 | .ab _,_,⟨v,h1,h2⟩=>⟨v,hr _ _ _ hl h1,h2⟩
 | .gone,_,h=>h
 | .pL k n,_,⟨v,vn,h1,h2,h3⟩=>by
  cases hn:r n with
  | none=>
   have e:(HO.pL k n).fj r= .gone:=by simp only [HO.fj,hn]
   rw [e];trivial
  | some n'=>
   have e:(HO.pL k n).fj r= .pL k n':=by simp only [HO.fj,hn]
   rw [e];exact ⟨v,vn,hr _ _ _ hl h1,hr _ _ _ hn h2,h3⟩
theorem bd.under {A:List Atom} {X Y:List Atom} (k:∀ h,bd g X h->bd g Y h):∀ {h:Hp},bd g (A++X) h->bd g (A++Y) h:=by
 induction A with
 | nil=>grind
 | cons a A ih=>exact λ⟨h1,h2,ap,e,s1,s2⟩=>⟨h1,h2,ap,e,s1,ih s2⟩
theorem bd.comm:∀ {A B:List Atom} {h:Hp},bd g (A++(B++F)) h->bd g (B++(A++F)) h
 | _,[],_,s=>s
 | A,b::B,_,s=>by
  obtain ⟨h1,h2,ap,e,s1,s2⟩:=bd.po (A:=A) (F:=B++F) s;exact ⟨h1,h2,ap,e,s1,bd.comm s2⟩
theorem bd.sk {H:List HO} {l:Nat} {o:HO} (ho:H[l]?=some o) {h:Hp} (s:bd g (a8 E 0 H++F) h):bd g (cF E l o::(a8 E 0 (H.set l .gone)++F)) h:=by
 have hn:=jT (E:=E) (F:=F) (k:=0) ho;rw [gA] at hn;obtain ⟨h1,h2,ap,e,s1,s2⟩:=bd.pick hn s;refine ⟨h1,h2,ap,e,s1,?_⟩;have h3:=kM (E:=E) (F:=F) (k:=0) (o':=.gone) (aw.1 ho).1;rw [<-h3];exact bd.ou hn ⟨λ_=>none,h2,λ_=>.inl rfl,by rfl,trivial,s2⟩
theorem bd.Em {H:List HO} {l:Nat} {o:HO} (hl:l< H.length) {h:Hp} (s:bd g (cF E l o::(a8 E 0 H++F)) h):bd g (a8 E 0 (H.set l o)++F) h:=by
 obtain ⟨h1,h2,ap,e,s1,s2⟩:=s;have hn:=jT (E:=E) (F:=F) (k:=0) (aq hl);have h3:=kM (E:=E) (F:=F) (k:=0) (o':=o) hl;rw [gA] at h3;rw [<-h3];obtain ⟨k1,k2,ap2,e2,_,s3⟩:=bd.pick hn s2
 -- what stood there is let go
 have:bd g (dJ (a8 E 0 H++F) l) h2:=by
  have key:∀ {L:List Atom} {k1 k2:Hp},Hp.apart k1 k2->bd g L k2->bd g L (k1.join k2):=by
   intro L
   induction L with
   | nil=>intros;trivial
   | cons a L ih=>
    rintro k1 k2 ap ⟨m1,m2,ap3,e3,s4,s5⟩;subst e3;obtain ⟨a1,a2⟩:=Hp.eM.1 ap;refine ⟨m1,k1.join m2,Hp.eM.2 ⟨a1.symm,ap3⟩,?_,s4,ih a2 s5⟩
    grind [Hp.join_assoc,Hp.join_comm]
  grind
 exact bd.ou hn ⟨h1,h2,ap,e,s1,this⟩
def iI (H:List HO):List Nat->List HO
 | []=>H
 | l::r=>(iI H r).set l .gone
theorem mO (H:List HO):∀ ls,(iI H ls).length=H.length
 | []=>rfl
 | _::r=>by unfold iI;rw [jc,mO H r]
theorem gz {l:Nat}:∀ {ls:List Nat},iA l ls=true↔l∈ls
 | []=>by simp [iA]
 | m::r=>by
  unfold iA;by_cases e:l=m;subst e;simp;simp [gz (ls:=r),e]
theorem jU:∀ {ls:List Nat},nG ls=true↔ls.Nodup
 | []=>by simp [nG]
 | l::r=>by
  unfold nG;rw [ao,jU (ls:=r),gj];constructor
  .rintro ⟨h1,h2⟩;refine ⟨λhm=>?_,h2⟩;rw [gz.2 hm] at h1;cases h1
  .rintro ⟨h1,h2⟩;refine ⟨?_,h2⟩;cases hm:iA l r with
   | false=>rfl
   | true=>exact absurd (gz.1 hm) h1
theorem Ao {H:List HO} {l:Nat}:∀ {ls:List Nat},l ∉ ls->(iI H ls)[l]?=H[l]?
 | [],_=>rfl
 | m::r,h=>by
  unfold iI;have h1:m≠l:=λe=>h (by simp [e]);rw [List.getElem?_set_ne h1,Ao (λq=>h (aI _ q))]
def YL (E:Env) (H:Nat->HO) (ls:List Nat):List Atom:=ls.map λl=>cF E l (H l)
theorem bd.qD {H:List HO} {ob:Nat->HO}:∀ {ls:List Nat} {h:Hp},ls.Nodup->(∀ l∈ls,H[l]?=some (ob l))->bd g (a8 E 0 H++F) h->bd g (a8 E 0 (iI H ls)++(YL E ob ls++F)) h
 | [],_,_,_,s=>s
 | l::r,_,hn,ho,s=>by
  rw [gj] at hn;have s1:=bd.qD hn.2 (λq hq=>ho q (aI _ hq)) s;have s2:=bd.sk (F:=YL E ob r++F) (o:=ob l) (by rw [Ao hn.1];exact ho l (by simp)) s1;exact bd.toEnd s2
theorem bd.xW {ob:Nat->HO} {r:Nat->Option Nat} (hr:mR r E E') {X:List Atom}:∀ {ls:List Nat} {k:Nat} {h:Hp},(∀ i l,ls[i]?=some l->r l=some (k+i))->bd g (YL E ob ls++X) h->bd g (a8 E' k (ls.map λl=>(ob l).fj r)++X) h
 | [],_,_,_,s=>s
 | l::ls,k,_,hi,⟨h1,h2,ap,e,s1,s2⟩=>⟨h1,h2,ap,e,cF.fj hr (by have:=hi 0 l rfl;omega) s1,bd.xW hr (k:=k+1) (λi m hm=>by
   have:=hi (i+1) m (by grind)
   grind) s2⟩
end
section
variable {W:cV} {F:List Atom} {b:Bs} {E E' E2:Env} {g w:World} {n:Nat} {a:Act} {s:Ov}
theorem Mi {H:List HO} {l:Nat} {o:HO}:∀ {ls:List Nat},l ∉ ls->(iI H ls).set l o=iI (H.set l o) ls
 | [],_=>rfl
 | m::r,h=>by
  unfold iI;have h1:m≠l:=λe=>h (by simp [e]);rw [<-Mi (λq=>h (aI _ q)),List.set_comm _ _ h1]
theorem vS {ls0:List Nat} {n0:Nat} (hr:mR (ko ls0 n0) E2 E'):∀ {ls:List Nat} {H:List HO} {s:Ov} {k:Nat} {h:Hp},ls.Nodup->ls.length<=H.length->(∀ i l,ls[i]?=some l->ko ls0 n0 (k+i)=some l/\l< s.n)->(∀ i,ko ls0 n0 (k+ls.length+i)=some (s.n+i))->
  bd g (a8 E2 k H++(a8 E' 0 (iI (b.heap s) ls)++F)) h->bd g (a8 E' 0 (b.heap (fp ls0 n0 ls H s))++F) h
 | [],[],s,k,_,_,_,_,_,x=>x
 | l::ls,[],_,_,_,_,hl,_,_,_=>by grind
 | l::ls,o::H,s,k,_,hn,hl,h1,h2,x=>by
  rw [gj] at hn;obtain ⟨q1,q2⟩:=h1 0 l rfl;obtain ⟨k1,k2,ap,e,s1,s2⟩:=x;have s3:=bd.toEnd (A:=a8 E2 (k+1) H) (F:=a8 E' 0 (iI (b.heap s) (l::ls))++F) ⟨k1,k2,ap,e,cF.fj hr q1 s1,s2⟩;have s4:=bd.under (A:=a8 E2 (k+1) H) (λh=>bd.Em (by rw [mO,dW];exact q2)) s3;have e1:(iI (b.heap s) (l::ls)).set l (o.fj (ko ls0 n0))=iI (b.heap (s.dR l (o.fj (ko ls0 n0)))) ls:=by
   grind [jx,Mi,iI,List.set_set]
  rw [e1] at s4;exact vS hr (s:=s.dR l (o.fj (ko ls0 n0))) hn.2 (by grind) (λi m hm=>by
   have:=h1 (i+1) m (by grind);rw [show k+(i+1)=k+1+i by omega] at this;assumption) (λi=>by
   have:=h2 i;rw [show k+1+ls.length+i=k+(ls.length+1)+i by omega];assumption) s4
 | [],o::H,s,k,_,hn,hl,h1,h2,x=>by
  obtain ⟨k1,k2,ap,e,s1,s2⟩:=x;have q:=h2 0;have s3:=bd.toEnd (A:=a8 E2 (k+1) H) (F:=a8 E' 0 (b.heap s)++F) ⟨k1,k2,ap,e,cF.fj hr q s1,s2⟩;have s4:=bd.under (A:=a8 E2 (k+1) H) (λh (y:bd g (cF E' s.n (o.fj (ko ls0 n0))::(a8 E' 0 (b.heap s)++F)) h)=>by
   have:=bd.toEnd y;show bd g (a8 E' 0 (b.heap s++ [o.fj (ko ls0 n0)])++F) h;rw [oX,gA,dW,aM];assumption) s3
  refine vS hr (ls:=[]) (k:=k+1) (s:=s.new (o.fj (ko ls0 n0))) hn (cM _) (by grind) (λi=>?_) ?_
  .have:=h2 (i+1);simp only [aY,Nat.add_zero] at this ⊢;rw [show k+1+i=k+(i+1) by omega,this];congr 1;show s.n+(i+1)=s.n+1+i;omega
  .show bd g (a8 E2 (k+1) H++(a8 E' 0 (b.heap (s.new (o.fj (ko ls0 n0))))++F)) _
   grind [tA]
theorem uj {ls0:List Nat} {n0:Nat}:∀ {ls:List Nat} {H:List HO} {s:Ov},(fp ls0 n0 ls H s).f=s.f
 | [],[],_=>rfl
 | _::_,[],_=>rfl
 | l::ls,o::H,s=>by
  show (fp ls0 n0 ls H (s.dR l _)).f=_;rw [uj];rfl
 | [],o::H,s=>by
  show (fp ls0 n0 [] H (s.new _)).f=_;rw [uj];rfl
theorem uh {ls0:List Nat} {n0:Nat}:∀ {ls:List Nat} {H:List HO} {s:Ov},ls.length<=H.length->(fp ls0 n0 ls H s).n=s.n+(H.length - ls.length)
 | [],[],s,_=>by simp [fp]
 | _::_,[],_,h=>by simp at h
 | l::ls,o::H,s,h=>by
  show (fp ls0 n0 ls H (s.dR l _)).n=_;rw [uh (by simpa using h)];show s.n+_=s.n+_;simp
 | [],o::H,s,_=>by
  show (fp ls0 n0 [] H (s.new _)).n=_;rw [uh (cM _)];show s.n+1+_=s.n+_;simp;omega
theorem tu {ls0:List Nat} {n0:Nat}:∀ {ls:List Nat} {H:List HO} {s:Ov},(∀ l∈ls,l< s.n)->(∀ l,s.n<=l->b.obj s l= .gone)->∀ l,(fp ls0 n0 ls H s).n<=l->b.obj (fp ls0 n0 ls H s) l= .gone
 | [],[],_,_,h=>h
 | _::_,[],_,_,h=>h
 | l::ls,o::H,s,hl,h=>by
  show ∀ q,(fp ls0 n0 ls H (s.dR l _)).n<=q->b.obj (fp ls0 n0 ls H (s.dR l _)) q= .gone;refine tu (λm hm=>hl m (by simp [hm])) λq hq=>?_;have Xg:s.n<=q:=hq;rw [jr,if_neg (by have:=hl l (by simp);omega)];exact h q Xg
 | [],o::H,s,hl,h=>by
  show ∀ q,(fp ls0 n0 [] H (s.new _)).n<=q->b.obj (fp ls0 n0 [] H (s.new _)) q= .gone;refine tu (λm hm=>by simp at hm) λq hq=>?_;have Xg:s.n+1<=q:=hq;rw [ue,if_neg (by omega)];exact h q (by omega)
theorem oP:∀ {ls:List Nat} {l i:Nat},iD ls l=some i->ls[i]?=some l
 | [],_,_,h=>by cases h
 | m::r,l,i,h=>by
  unfold iD at h;by_cases e:m=l
  .have:i=0:=by simp_all
   grind
  .rw [jk e] at h;split at h
   .rename_i j hj;obtain rfl:=aj h;simpa using oP hj
   grind
theorem qk:∀ {ls:List Nat},ls.Nodup->∀ {i l:Nat},ls[i]?=some l->iD ls l=some i
 | [],_,_,_,h=>by grind
 | m::r,hn,0,l,h=>by
  simp_all [iD]
 | m::r,hn,i+1,l,h=>by
  rw [gj] at hn;have h':r[i]?=some l:=by grind
  have ja:m≠l:=by grind
  unfold iD;rw [jk ja];simp only [cond_false];rw [qk hn.2 h']
theorem NS {p:Prop}:∀ {c:Cl} {u:Value},ck E g c u->TD c p->p:=by
 intro c u r h;unfold TD at h;split at h;exact h r.2;exact h r.2;exact h (lJ r);omega
theorem G8 {p:Prop}:∀ {l:List Cl} {us:List Value},bz E g l us->Qx l p->p
 | [],_,_,h=>h
 | _::_,_,⟨_,_,_,h1,h2⟩,h=>G8 h2 (NS h1 h)
theorem NR {p:Prop}:∀ {x:S1} {u:Value},gr E g x u->aar x p->p
 | .c _,_,r,h=>NS r h
 | .agg _,_,⟨_,r,_⟩,h=>G8 r h
theorem G7 {p:Prop}:∀ {l:List S1} {us:List Value},ir E g l us->Qw l p->p
 | [],_,_,h=>h
 | _::_,_,⟨_,_,_,h1,h2⟩,h=>G7 h2 (NR h1 h)
theorem NQ {p:Prop}:∀ {x:SV} {u:Value},dd E g x u->TC x p->p
 | .v _,_,r,h=>NR r h
 | .cC _,_,⟨_,r,_⟩,h=>G7 r h
 | .any,_,_,h=>h
 | .arr _ _,_,_,h=>h
theorem G6 {p:Prop}:∀ {l:List SV} {us:List Value},bA E g l us->Qv l p->p
 | [],_,_,h=>h
 | _::_,_,⟨_,_,_,h1,h2⟩,h=>G6 h2 (NQ h1 h)
theorem tX {P:Program} {ct:FuncId->Ct} (kf:∀ f args H Q,ct f args H Q->WpW W P f args H Q) (S:df n W F b E g w s a) {f:FuncId} {args:List SV} {vs:List Value} {K:SV->Ov->Prop} (hv:bA E g args vs) (h:Dz ct b s f args K):HM P f vs.toArray w (Out n W F b E g a K):=by
 unfold Dz at h;generalize hls:sB (b.obj s) 1000 (qf args) []=ls at h;obtain ⟨Dk,h⟩:=dc h;rw [ao,jU] at Dk;obtain ⟨hn,fB⟩:=Dk;have Dg:∀ l∈ls,l< s.n:=by simp_all
 have hEl:∀ l∈ls,∃ v,E[l]?=some v:=λl hl=>⟨_,aq (by rw [S.len];exact Dg l hl)⟩
 -- the callee's labels
 have wj:mR (iD ls) E (ls.map λl=>(E[l]?).getD undef):=λl l' v h1 h2=>by
  have:=oP h1
  grind
 have xi:Sat W (ls.map λl=>(E[l]?).getD undef) g w (ls.map λl=>(b.obj s l).fj (iD ls)) (a8 E 0 (iI (b.heap s) ls)++F):=by
  refine ⟨S.sat.sl.cv λh0 x=>?_,by simp⟩;have x1:=bd.qD (ob:=b.obj s) hn (λl hl=>eL (Dg l hl)) x;have x2:=bd.comm x1;exact bd.xW wj (k:=0) (λi l hi=>by grind [qk]) x2
 refine HM.mono (kf _ _ _ _ h g w _ _ vs xi (bA.fj wj hv)) ?_;rintro v w' ⟨E2,g',sv,H',hle,hm,hs,hsv,h⟩;obtain ⟨hlen,h⟩:=dc h;have ang:ls.length<=H'.length:=eU hlen;have hE2:E2.length=H'.length:=hs.len
 -- the caller's labels
 have lK:∀ l,ko ls s.n l=if l< ls.length then ls[l]? else some (s.n+(l - ls.length)):=λl=>by
  unfold ko
  grind
 have hr2:mR (ko ls s.n) E2 (E++E2.drop ls.length):=λl l' v h1 h2=>by
  rw [lK] at h1;by_cases hl:l< ls.length
  .rw [if_pos hl] at h1;have h3:l'< s.n:=Dg l' (kz h1);obtain ⟨u,hu⟩:=hEl l' (kz h1);have:=hle l u (by grind)
   grind
  .rw [if_neg hl] at h1;obtain rfl:=aj h1;rw [bD (by rw [S.len];omega),S.len,List.getElem?_drop,<-h2]
   grind
 have V9:(E++E2.drop ls.length).length=s.n+(H'.length - ls.length):=by
  rw [af,S.len,aR,hE2]
 refine ⟨E++E2.drop ls.length,g',fp ls s.n ls H' s,sv.fj (ko ls s.n),bu.app E _,hm,⟨S.size,S.defers,λt u hu=>?_,⟨?_,?_⟩,?_⟩,dd.fj hr2 hsv,NQ hsv h⟩
 .have:b.slot (fp ls s.n ls H' s) t=b.slot s t:=by grind [Bs.slot,uj]
  rw [this] at hu;exact (S.fr t u hu).mono (bu.app E _) hm
 .refine hs.sl.cv λh0 x=>?_;refine vS hr2 (k:=0) hn ang (λi l hi=>⟨?_,Dg l (kz hi)⟩) (λi=>?_) (by grind [bd.under,a8.env,bu.app])
  .grind
  grind
 .grind [dW,uh]
 .exact tu Dg S.top
theorem YY {ls:List Nat} {n0 l:Nat} (h:l∈ls):∃ i,iD ls l=some i/\ko ls n0 i=some l:=by
 have key:∀ {ls:List Nat},l∈ls->∃ i,iD ls l=some i:=λ{ls}=>by
  induction ls with
  | nil=>grind
  | cons m r ih=>
   unfold iD;by_cases e:m=l
   .simp_all
   grind
 grind [ko,oP]
mutual
theorem Cl.wM {r1 r2:Nat->Option Nat}:∀ {c:Cl},(∀ l∈c.labels,∃ i,r1 l=some i/\r2 i=some l)->(c.fj r1).fj r2=c
 | .k _,_=>rfl
 | .d _ _,_=>rfl
 | .de _ _ _ _,_=>rfl
 | .Km,_=>rfl
 | .p l off,h=>by obtain ⟨i,h1,h2⟩:=h l (by simp [Cl.labels]);simp only [Cl.fj,h1,h2]
 | .o l,h=>by obtain ⟨i,h1,h2⟩:=h l (by simp [Cl.labels]);simp only [Cl.fj,h1,h2]
 | .os l _ _ _,h=>by obtain ⟨i,h1,h2⟩:=h l (by simp [Cl.labels]);simp only [Cl.fj,h1,h2]
 | .oe l _ _ _,h=>by obtain ⟨i,h1,h2⟩:=h l (by simp [Cl.labels]);simp only [Cl.fj,h1,h2]
 | .m l,h=>by obtain ⟨i,h1,h2⟩:=h l (by simp [Cl.labels]);simp only [Cl.fj,h1,h2]
 | .sc l _ _,h=>by obtain ⟨i,h1,h2⟩:=h l (by simp [Cl.labels]);simp only [Cl.fj,h1,h2]
 | .kl l _,h=>by obtain ⟨i,h1,h2⟩:=h l (by simp [Cl.labels]);simp only [Cl.fj,h1,h2]
 | .fn f caps,h=>by simp only [Cl.fj];rw [Cl.ya (l:=caps) λl hl=>h l (by simpa [Cl.labels] using hl)]
 | .Ee t c,h=>by simp only [Cl.fj];rw [Cl.wM (c:=c) λl hl=>h l (by simpa [Cl.labels] using hl)]
theorem Cl.ya {r1 r2:Nat->Option Nat}:∀ {l:List Cl},(∀ x∈Cl.nT l,∃ i,r1 x=some i/\r2 i=some x)->Cl.wL r2 (Cl.wL r1 l)=l
 | [],_=>rfl
 | c::l,h=>by
  simp only [Cl.wL];rw [Cl.wM (c:=c) λx hx=>h x (by simp [Cl.nT,hx]),Cl.ya (l:=l) λx hx=>h x (by simp [Cl.nT,hx])]
end
theorem HO.wM {r1 r2:Nat->Option Nat}:∀ {o:HO},(∀ l∈o.labels,∃ i,r1 l=some i/\r2 i=some l)->(o.fj r1).fj r2=o
 | .cells t cs,h=>by
  show HO.cells t (Cl.wL r2 (Cl.wL r1 cs))=_;rw [Cl.ya (l:=cs) h]
 | .sl ..,_=>rfl
 | .held ..,_=>rfl
 | .map ..,_=>rfl
 | .abs _,_=>rfl
 | .ab _,_=>rfl
 | .gone,_=>rfl
 | .pL k n,h=>by
  obtain ⟨i,h1,h2⟩:=h n (aU.2 rfl);simp only [HO.fj,h1,h2]
theorem xc {ls0:List Nat} {n0:Nat} {g:Nat->HO} {s0:Ov}:∀ {ls:List Nat} {s:Ov},(∀ l,b.obj s l=b.obj s0 l)->(∀ l∈ls,(g l).fj (ko ls0 n0)=b.obj s0 l)->∀ l,b.obj (fp ls0 n0 ls (ls.map g) s) l=b.obj s0 l
 | [],_,h,_=>h
 | l::ls,s,h,hg=>xc (ls:=ls) (s:=s.dR l ((g l).fj (ko ls0 n0))) (by simp_all [jr]) (by grind)
theorem YP {p:Prop}:∀ {c d:Cl},YQ c d p->c=d/\p:=by
 intro c d h;unfold YQ at h;split at h
 .grind
 .simp_all
 .simp_all
 .simp_all
 .split at h
  .rename_i y' hy;obtain ⟨q,e1⟩:=eB hy;subst q;exact ⟨by rw [h.1,e1];rfl,h.2⟩
  grind
 grind
theorem Gh {p:Prop}:∀ {l r:List Cl},Pe l r p->l=r/\p
 | [],[],h=>⟨rfl,h⟩
 | c::l,d::r,h=>by
  obtain ⟨e1,h1⟩:=YP h;obtain ⟨e2,h2⟩:=Gh h1;exact ⟨by rw [e1,e2],h2⟩
 | [],_::_,h=>h.elim
 | _::_,[],h=>h.elim
theorem YN {p:Prop}:∀ {a b:HO},YO a b p->a=b/\p:=by
 intro a b h;unfold YO at h;split at h
 .grind [Gh,ai]
 .obtain ⟨e,h⟩:=dc h;split at h
  .rename_i y hy;obtain ⟨q,hq⟩:=eB hy;subst q;refine ⟨?_,h.2⟩;rw [ai e,h.1,hq];rfl
  grind
 .grind
 grind
theorem Gg {p:Prop}:∀ {l r:List HO},Pd l r p->l=r/\p
 | [],[],h=>⟨rfl,h⟩
 | c::l,d::r,h=>by
  obtain ⟨e1,h1⟩:=YN h;obtain ⟨e2,h2⟩:=Gg h1;exact ⟨by rw [e1,e2],h2⟩
 | [],_::_,h=>h.elim
 | _::_,[],h=>h.elim
theorem Gl {P:Program} {ct:FuncId->Ct} (kf:∀ f args H Q,ct f args H Q->WpW W P f args H Q) (S:df n W F b E g w s a) {f:FuncId} {args:List SV} {vs:List Value} {K:SV->Ov->Prop} (hv:bA E g args vs) (h:TP ct b s f args K):HM P f vs.toArray w (Out n W F b E g a K):=by
 unfold TP at h;generalize hls:sB (b.obj s) 1000 (qf args) []=ls at h;obtain ⟨Dk,h⟩:=dc h;rw [ao] at Dk;obtain ⟨hn,jI⟩:=Dk;have fB:∀ l∈ls,l< s.n/\∀ q∈(b.obj s l).labels,q∈ls:=λl hl=>by
  have:=bo.1 jI l hl;simp_all [gz]
 have h1:=kf _ _ _ _ h;have h2:Dz (λf args H Q=>WpW W P f args H Q) b s f args (λr s'=>s'=fp ls s.n ls (ls.map λl=>(b.obj s l).fj (iD ls)) s/\K r s):=by
  unfold Dz;rw [hls,if_pos (by rw [ao];exact ⟨hn,bo.2 λl hl=>by simpa using (fB l hl).1⟩)];intro g0 w0 E0 F0 vs0 S0 Tu;refine (h1 g0 w0 E0 F0 vs0 S0 Tu).mono λv w' ⟨E',g',sv,H',a1,a2,a3,a4,q⟩=>⟨E',g',sv,H',a1,a2,a3,a4,?_⟩;obtain ⟨e,q2⟩:=Gg q;simp_all
 refine (tX (ct:=λf args H Q=>WpW W P f args H Q) (λ_ _ _ _ h=>h) S hv h2).mono λv w' ⟨E',g',s',sv,a1,a2,S',a4,e,hk⟩=>⟨E',g',s,sv,a1,a2,?_,a4,hk⟩;subst e;have apG:=xc (b:=b) (ls0:=ls) (n0:=s.n) (g:=λl=>(b.obj s l).fj (iD ls)) (s0:=s) (ls:=ls) (s:=s) (by grind) λl hl=>HO.wM λq hq=>YY (by grind);have hnn:(fp ls s.n ls (ls.map λl=>(b.obj s l).fj (iD ls)) s).n=s.n:=by grind [uh]
 have ank:b.heap (fp ls s.n ls (ls.map λl=>(b.obj s l).fj (iD ls)) s)=b.heap s:=by
  grind [Bs.heap,jy]
 refine ⟨S'.size,S'.defers,λt u hu=>S'.fr t u ?_,by rw [<-ank];exact S'.sat,S.top⟩
 grind [Bs.slot,uj]
theorem bA.app:∀ {l k:List SV} {us vs:List Value},bA E g l us->bA E g k vs->bA E g (l++k) (us++vs)
 | [],_,_,_,h,hk=>by rw [show _=_ from h];exact hk
 | _::_,_,_,_,⟨u,r,e,h1,h2⟩,hk=>by rw [e];exact ⟨u,r++_,rfl,h1,bA.app h2 hk⟩
theorem Cm:∀ {l:List Cl} {us:List Value},bz E g l us->bA E g (l.map .c) us
 | [],_,h=>h
 | _::_,_,⟨u,r,e,h1,h2⟩=>⟨u,r,e,h1,Cm h2⟩
theorem uc (S:df n W F b E g w s a):∀ {l:List Operand} {vs:List SV},AG b s l=some vs->bA E g vs (l.map a.eval)
 | [],vs,h=>by
  obtain rfl: []=vs:=aj h;rfl
 | x::r,vs,h=>by
  unfold AG at h;split at h
  .rename_i v hv;split at h
   .rename_i l hl;obtain rfl:v::l=vs:=aj h;exact ⟨_,_,rfl,S.fe hv,uc S hl⟩
   .cases h
  .cases h
theorem YV {P:Program} {o:Oper} {c:Call} {fo:Operand} {f:FuncId} {us:Array Value} (ho:o.op= .call c) (hc:c.callee= .value fo) (hf:a.eval fo= .func (.func f) #[] us) (hk:rk P f=true):
  (execOp a.eval o).run P w= .ok (.enter f (c.args.map a.eval++us)) w:=by
 unfold rk at hk;split at hk
 .rename_i fn hfn;have h2:¬fn.body=none:=by grind
  simp_all [execOp,resolve,Deferred.ofValue,invoke,callFunc]
 grind
end
theorem Pj {P:Program} {t:TypeId} {name:String} {f:FuncId} {v:Value} {w:World} (k:Nat) (h:Tc P t name=some f):(method (k+1) t v name).run P w= .ok (f,v) w:=by
 unfold Tc at h;split at h
 .split at h
  .split at h
   .split at h
    .simp_all [method,typeInfo,follow,receiverAt,Place.get,underlying]
    grind
   grind
  grind
 grind
theorem Pk {P:Program} {a:Act} {w:World} {o:Oper} {c:Call} {ro:Operand} {name:String} {f:FuncId} {t:TypeId} {v:Value} (ho:o.op= .call c) (hc:c.callee= .invoke ro name) (hf:a.eval ro= .iface t v) (hm:Tc P t name=some f) (hk:rk P f=true):
  (execOp a.eval o).run P w= .ok (.enter f (#[v]++c.args.map a.eval)) w:=by
 unfold rk at hk;split at hk
 .rename_i fn hfn;simp only [ao,cY] at hk;have h1:¬fn.name= "runtime.NumGoroutine" :=by simpa using hk.1
  have h2:¬fn.body=none:=λe=>by rw [e] at hk;cases hk.2
  have hinv:∀ A:Array Value,A[0]?=some (.iface t v)->invoke (.fn (.method name) #[]) A=callMethod (.iface t v) name (A.extract 1 A.size):=λA hA=>by
   simp only [invoke,hA]
  have hx:(#[Value.iface t v]++c.args.map a.eval)[0]?=some (.iface t v):=by rw [qB (by simp)];rfl
  have hy:(#[Value.iface t v]++c.args.map a.eval).extract 1 (#[Value.iface t v]++c.args.map a.eval).size=c.args.map a.eval:=by simp [aL]
  have apz:resolve a.eval c o.type=pure {target:=.fn (.method name) #[],args:= #[Value.iface t v]++c.args.map a.eval}:=by simp only [resolve,hc,hf]
  have hmm:=Pj (w:=w) (v:=v) (P.types.size+99) hm;have ff:(callMethod (.iface t v) name (c.args.map a.eval)).run P w= .ok (.enter f (#[v]++c.args.map a.eval)) w:=by
   simp [callFunc,hfn,h1,h2,go_sem,hmm]
  have he:execOp a.eval o=(do let d <-resolve a.eval c o.type;invoke d.target d.args):=by simp only [execOp,ho]
  rw [he,apz];show (invoke (.fn (.method name) #[]) (#[Value.iface t v]++c.args.map a.eval)).run P w=_;rw [hinv _ hx,hy];exact ff
 .cases hk
section
variable {X:Vx} {n:Nat} {W:cV} {F:List Atom} {b:Bs} {E:Env} {g w:World} {s:Ov} {a:Act} {o:Oper}
theorem akP {c:Bool} {p q:Prop} (h:br c p q):(c=true/\p)\/(c=false/\q):=by
 cases c;exact .inr ⟨rfl,h⟩;exact .inl ⟨rfl,h⟩
theorem Vp (S:df n W F b E g w s a) {x:Operand} {c:Cl} {K:SV->Ov->Prop} (ho:o.op= .next x true) (r:ck E g c (a.eval x)) (h:Zz b s c K):
  ∃ v w',(execOp a.eval o).run X.P w= .ok (.value v) w'/\Out n W F b E g a K v w':=by
 unfold Zz at h;split at h
 .rename_i l;obtain ⟨bb,hE,hx⟩:=r;split at h
  .rename_i z p eD;have H0:=S.pick hE;rw [eD] at H0;obtain ⟨hz,H⟩:z.size<=maxLen/\SL W g w (obj bb (.stringIter z p)::dJ (a8 E 0 (b.heap s)++F) l):=by
    obtain ⟨k,be,se,ow,h1,h2,ap,q,⟨u,s1,hz,b',e1,s2⟩,s3⟩:=H0;refine ⟨hz,k,be,se,ow,h1,h2,ap,q,?_,s3⟩;rw [hE] at s1;have:bb=b':=by grind
    rw [this];exact s2
   have hk:=H.has 0;have AJ:∀ {m:Nat},m<=9223372036854775807->aB .i64 (m:Int):=λ{m} h=>by
    show (-9223372036854775808:Int)<=m/\(m:Int)<=9223372036854775807;omega
   have h:(decide (p< z.size)=true/\_)\/(decide (p< z.size)=false/\_):=akP h;rcases h with ⟨e,h⟩| ⟨e,h⟩
   .have fB:p< z.size:=by grind
    have hr:=Q6 (P:=X.P) hk fB ho hx;have hd:=decode_le z p;have H2:=SL.zQ H (⟨rfl,(aO.1 hk).1⟩:qy w bb (.stringIter z (p+(Utf8.decode z p).2)) _);refine ⟨_,_,hr,E,g,_,_,bu.refl E,bt.refl g,S.back hE (.ab (.iter z (p+(Utf8.decode z p).2))) (bt.refl g) (H2.cv λk ⟨k1,k2,ap,q,s1,s2⟩=>⟨k1,k2,ap,q,⟨_,hE,hz,_,rfl,s1⟩,s2⟩),?_,h⟩;refine ⟨_,⟨_,_,rfl,⟨rfl,rfl⟩,_,_,rfl,⟨rfl,AJ ?_⟩,_,_,rfl,⟨rfl,?_⟩,rfl⟩,rfl⟩
    .grind [maxLen]
    .show (-2147483648:Int)<=((Utf8.decode z p).1:Int)/\((Utf8.decode z p).1:Int)<=2147483647;omega
   .exact ⟨_,_,by grind [W2],E,g,s,.cC [.c (.k (.bool false))],bu.refl E,bt.refl g,S,⟨_,⟨_,_,rfl,⟨rfl,rfl⟩,rfl⟩,rfl⟩,h⟩
  grind
 grind
theorem zi:∀ {off m j:Nat} {cs zg:List Cl} {ys:List ByteArray} {us:List Value},v8 off m j cs ys=some zg->(∀ y∈ys,y.size<=maxLen)->bz E g cs us->
  off+m<=us.length/\bz E g zg (us.take off++(((ys.drop j).take m).map Value.string++us.drop (off+((ys.drop j).take m).length)))
 | 0,0,j,cs,zg,ys,us,h,_,hc=>by
  grind [v8]
 | 0,m+1,j,c::r,zg,ys,us,h,hy,⟨u,q,e,h1,h2⟩=>by
  subst e;unfold v8 at h;split at h
  .split at h
   .rename_i l hl;obtain rfl:=aj h;obtain ⟨h3,h4⟩:=zi hl hy h2;refine ⟨by grind,?_⟩;cases hj:ys[j]? with
    | some y=>
     have hd:ys.drop j=y::ys.drop (j+1):=by
      grind [bM]
     rw [hd,List.take_succ_cons];simp only [List.take_zero,gS,cw,av,Option.getD_some,eH,gA] at h4 ⊢;exact ⟨_,_,rfl,⟨rfl,hy y (kz hj)⟩,h4⟩
    | none=>
     have hlen:ys.length<=j:=by grind
     rw [eJ (by omega:ys.length<=j+1)] at h4;rw [eJ hlen];simp only [List.take_nil,List.map_nil,aY,List.take_zero,gS,Nat.add_zero,o9,Option.getD_none] at h4 ⊢;obtain ⟨rfl,hz⟩:=h1;exact ⟨_,_,rfl,⟨rfl,hz⟩,h4⟩
   grind
  grind
 | off+1,m,j,c::r,zg,ys,us,h,hy,⟨u,q,e,h1,h2⟩=>by
  subst e;unfold v8 at h;split at h
  .rename_i l hl;obtain rfl:=aj h;obtain ⟨h3,h4⟩:=zi hl hy h2;refine ⟨by grind,?_⟩;rw [List.take_succ_cons,show off+1+((ys.drop j).take m).length=(off+((ys.drop j).take m).length)+1 by omega,List.drop_succ_cons];exact ⟨_,_,rfl,h1,h4⟩
  grind
 | 0,m+1,j,[],_,_,_,h,_,_=>by cases h
 | off+1,m,j,[],_,_,_,h,_,_=>by cases h
theorem Vd {ds:List (List Value)}:∀ {ys:List ByteArray},eF g ds ys->ds.flatten=ys.map Value.string/\∀ y∈ys,y.size<=maxLen:=by
 induction ds with
 | nil=>
  intro ys h;cases ys with
  | nil=>grind
  | cons _ _=>trivial
 | cons d ds ih=>
  intro ys h;cases ys with
  | nil=>trivial
  | cons y ys=>
   obtain ⟨h1,h2⟩:=h;obtain ⟨e,hs⟩:d= [.string y]/\y.size<=maxLen:=h1
   grind
theorem He {t t2 et:TypeId} {x y:Operand} {v:Value} {xs ys:List UInt8} {off:Int} {R:List Atom} (ho:o.op= .call {callee:=.builtin .copy,args:= #[x,y],argTypes:= #[t,t2]}) (ht:X.P.underlying t=some (.slice et)) (hu:Nu X et=true) (H:SL W g w (pD .u8 et v xs::R)) (hy:Rd g w (a.eval y) ys) (h0:0<=off) (h1:off<=xs.length) (hx:a.eval x=jB 1 v off xs.length):
  ∃ w',(execOp a.eval o).run X.P w= .ok (.value (.int .i64 (min ys.length (xs.length - off.toNat):Nat))) w'/\SL W g w' (pD .u8 et v (mP xs off.toNat ys)::R):=by
 have hs:(X.P.info? et).map (·.size)=some 1:=by
  unfold Nu at hu;split at hu
  .simp_all
  .cases hu
 have H0:SL W g w (B6 et v xs::R):=H;have H1:=H0.ai5;rcases H1.ofRow with ⟨hv,hl,_,_⟩| ⟨k',afr,cur,hv,_⟩
 .have Aj:xs= []:=bB hl;subst Aj hv;have ho0:off=0:=by omega
  subst ho0;have OV:a.eval x= .slice none 0 0:=hx;have hlen:(Builtin.lenOf (a.eval y)).run X.P w= .ok ys.length w:=by
   rcases hy with ⟨e,rfl⟩| ⟨ad,c,e,_⟩<;>rw [e]<;>simp [Builtin.lenOf]
  have hfc:(Builtin.firstCells 1 0 (a.eval y)).run X.P w= .ok #[] w:=by
   rcases hy with ⟨e,rfl⟩| ⟨ad,c,e,h3,h4,ds,h5,h6⟩;rw [e];simp [Builtin.firstCells]
   grind [run_firstCells_some]
  cases mN:X.P.info? et with
  | none=>rw [mN] at hs;cases hs
  | some ie=>
   have hs1:ie.size=1:=by rw [mN] at hs;simpa using hs
   refine ⟨w,?_,by simpa [mP] using H⟩;simp [execOp,ho,resolve,invoke,builtin,Builtin.copy_,run_underlying ht,OV,hlen,hfc,sizeOf,typeInfo,mN,hs1,goInt,Result.andThen]
 .subst hv;obtain ⟨w',hr,H'⟩:=SL.anI (P:=X.P) (dT:=t) (sT:=t2) (ty:=o.type) H0 hy h0 h1 ht hs;rw [<-hx] at hr;exact ⟨w',by simp [execOp,ho,resolve,invoke,builtin,hr],H'⟩
theorem Vr (S:df n W F b E g w s a) {t t2:TypeId} {x y:Operand} {cx cy:Cl} {K:SV->Ov->Prop} (ho:o.op= .call {callee:=.builtin .copy,args:= #[x,y],argTypes:= #[t,t2]}) (rx:ck E g cx (a.eval x)) (ry:ck E g cy (a.eval y)) (h:copyV X b s t t2 cx cy K):
  ∃ v w',(execOp a.eval o).run X.P w= .ok (.value v) w'/\Out n W F b E g a K v w':=by
 unfold copyV at h;split at h
 .rename_i et l off m ht;obtain ⟨bb,c,hE,hmc,hx⟩:=rx;obtain ⟨_,h⟩:=dc h;split at h
  .rename_i ie ys u cs mN Ny eD;obtain ⟨hs1,h⟩:=dc h;have hs1:ie.size=1:=ai hs1;split at h
   .rename_i zg yZ;obtain ⟨hm,h⟩:=h;obtain ⟨V4,_⟩:=ug S ry Ny;obtain ⟨us,hr,hB,H⟩:=o5 S hE eD
    -- what is laid
    have key:∃ vs:List Value,vs=(ys.take m).map Value.string/\(∀ z∈ys,z.size<=maxLen)/\(Builtin.lenOf (a.eval y)).run X.P w= .ok ys.length w/\(Builtin.firstCells 1 (min ys.length m) (a.eval y)).run X.P w= .ok vs.toArray w:=by
     rcases V4 with ⟨e,rfl⟩| ⟨ad,cap,e,JL,ff,ds,Wa,qm⟩
     .rw [e];exact ⟨[],by simp,(λ_ h=>nomatch h),by simp [Builtin.lenOf],by simp [Builtin.firstCells]⟩
     .obtain ⟨hfl,mM⟩:=Vd (ds:=ds) Wa;rw [e];refine ⟨_,rfl,mM,by simp [Builtin.lenOf],?_⟩;refine run_firstCells_some (P:=X.P) w 1 (min ys.length m) ad ys.length cap ((ys.take m).map Value.string) (by simp [Nat.min_comm]) λj v hj=>?_;refine qm j v ?_;rw [hfl];rw [dj] at hj ⊢;rw [mT] at hj;split at hj
      .exact hj
      .cases hj
    obtain ⟨vs,Ef,mM,hlen,hfc⟩:=key;obtain ⟨hle,hrel⟩:=zi yZ mM hr;rw [o9,<-Ef] at hrel;have hvl:vs.length=(ys.take m).length:=by rw [Ef,bT]
    rw [<-hvl] at hrel;have hvm:vs.length=min ys.length m:=by rw [hvl,aF,Nat.min_comm]
    have ql:∀ v∈vs,v.oneCell'=true:=λv hv=>by
     rw [Ef] at hv;obtain ⟨z,_,rfl⟩:=bp.1 hv;rfl
    have uI:=run_storeCells_at X.P bb off u vs 0 us.toArray w hB (by rw [List.size_toArray];omega) ql;simp only [Nat.add_zero] at uI;have jt:(execOp a.eval o).run X.P w= .ok (.value (.int .i64 (min ys.length m:Nat))) (w.setRow bb (us.toArray.toList.take off++vs++us.toArray.toList.drop (off+vs.length)).toArray):=by
     have Qm:Nat.min ys.length m=min ys.length m:=rfl;simp [execOp,ho,resolve,invoke,builtin,Builtin.copy_,run_underlying ht,hx,hlen,sizeOf,typeInfo,mN,hs1,hfc,uI,goInt,Qm]
    refine ⟨_,_,jt,E,g,_,.int (min ys.length m:Nat),bu.refl E,bt.refl g,S.back hE (.cells u zg) (bt.refl g) ?_,dH ?_,h⟩
    .have H2:=SL.zQ H ((⟨rfl,hB.lt⟩:Xk w bb (us.toArray.toList.take off++vs++us.toArray.toList.drop (off+vs.length)).toArray _).BU hB);refine H2.cv λk ⟨k1,k2,ap,q,s1,s2⟩=>⟨k1,k2,ap,q,⟨bb,_,hE,hrel,?_⟩,s2⟩;have s1':k1 bb=some (.cells (us.toArray.toList.take off++vs++us.toArray.toList.drop (off+vs.length)).toArray u (0,0)):=s1;rw [s1'];simp
    .show (-9223372036854775808:Int)<=(min ys.length m:Nat)/\((min ys.length m:Nat):Int)<=9223372036854775807;omega
   .cases h
  .cases h
 .rename_i et l ht;obtain ⟨hE,Eg⟩:=rx;have hQ:=dc h;clear h;obtain ⟨hc,h⟩:=hQ;rw [ao] at hc;split at h
  .rename_i Qz e xs0 eD;have hQ:=dc h;clear h;obtain ⟨he,h⟩:=hQ;obtain rfl:=ai he;split at h
   .rename_i xs Aj;obtain ⟨q,hq⟩:=eB Aj;subst q;have hq:xs=xs0:=hq;subst hq;obtain ⟨ys,V4,_,hK⟩:=HZ S ry h;have H:=j5 S hE eD;have hx:a.eval x=jB 1 (a.eval x) 0 xs.length:=by
     have H0:SL W g w (B6 Qz (a.eval x) xs::_):=H;rcases H0.ai5.ofRow with ⟨hv,hl,_,_⟩| ⟨k',afr,cur,hv,_⟩;rw [hv,hl];rfl;exact (Pa _ _ _ _ hv).symm
    obtain ⟨w',hr,H'⟩:=He ho ht hc.2 H V4 (bh 0) (by omega) hx;refine ⟨_,w',hr,E,g,_,.int (min ys.length xs.length:Nat),bu.refl E,bt.refl g,S.back hE (.sl Qz .u8 (mP xs 0 ys)) (bt.refl g) ?_,?_,hK⟩;exact H'.cv λk ⟨k1,k2,ap,q,s1,s2⟩=>⟨k1,k2,ap,q,⟨_,hE,s1⟩,s2⟩
    .have:=lJ (pK H);refine dH (m:=(min ys.length (xs.length - (0:Int).toNat):Nat)) ?_;show (-9223372036854775808:Int)<=(min ys.length (xs.length - 0):Nat)/\((min ys.length (xs.length - 0):Nat):Int)<=9223372036854775807;omega
   .cases h
  .cases h
 .rename_i et l sz lo hi ht;obtain ⟨v,hE,hx,Eg⟩:=rx;have hQ:=dc h;clear h;obtain ⟨hc,h⟩:=hQ;simp only [ao] at hc;split at h
  .rename_i Qz e xs0 eD;have hQ:=dc h;clear h;obtain ⟨he,h⟩:=hQ;obtain rfl:=ai he;split at h
   .rename_i xs Aj;obtain ⟨q,hq⟩:=eB Aj;subst q;have hq:xs=xs0:=hq;subst hq;obtain ⟨h0,h1,rfl,h⟩:=h;obtain ⟨ys,V4,_,hK⟩:=HZ S ry h;have H:=j5 S hE eD;obtain rfl:=ai hc.2.2;obtain ⟨w',hr,H'⟩:=He ho ht hc.2.1 H V4 h0 h1 hx;refine ⟨_,w',hr,E,g,_,.int (min ys.length (xs.length - lo.toNat):Nat),bu.refl E,bt.refl g,S.back hE (.sl Qz .u8 (mP xs lo.toNat ys)) (bt.refl g) ?_,?_,hK⟩
    .exact H'.cv λk ⟨k1,k2,ap,q,s1,s2⟩=>⟨k1,k2,ap,q,⟨_,hE,s1⟩,s2⟩
    .have:=lJ (pK H);refine dH (m:=(min ys.length (xs.length - lo.toNat):Nat)) ?_;show (-9223372036854775808:Int)<=(min ys.length (xs.length - lo.toNat):Nat)/\((min ys.length (xs.length - lo.toNat):Nat):Int)<=9223372036854775807;omega
   .cases h
  .cases h
 .cases h
end
def vb {κ:Type} [dK κ] (P:Program) (k:TypeId) (hz:Hp) (v:Value) (m:List (κ×Value)):Prop:=
 (v= .map none/\m= [])\/∃ b es clock,v= .map (some b)/\hz b=some (.map es clock)/\lP P k es clock m
theorem vb.sub {κ:Type} [dK κ] {P:Program} {k:TypeId} {hz hk:Hp} {v:Value} {m:List (κ×Value)} (h:vb P k hz v m) (i:hz.sub hk):vb P k hk v m:=by
 rcases h with h| ⟨b,es,c,h1,h2,h3⟩;exact .inl h;exact .inr ⟨b,es,c,h1,i _ _ h2,h3⟩
theorem vb.o {κ:Type} [dK κ] {P:Program} {k:TypeId} {hz:Hp} {w:World} {v:Value} {m:List (κ×Value)} {ob:Array MapEntry×Nat} (h:vb P k hz v m) (i:∀ b o,hz b=some o->w.heap[b]?=some o) (ho:Ra hz v ob):Xa P k w v ob m:=by
 rcases h with h| ⟨b,es,c,h1,h2,h3⟩;exact .inl h
 .rcases ho with ho| ⟨b',ho,h4⟩
  .grind
  .obtain rfl:b=b':=by grind
   obtain ⟨o1,o2⟩:=ob;have:es=o1/\c=o2:=by
    grind
   obtain ⟨rfl,rfl⟩:=this;exact .inr ⟨b,h1,i _ _ h2,h3⟩
theorem vb.ob {κ:Type} [dK κ] {P:Program} {k:TypeId} {hz:Hp} {v:Value} {m:List (κ×Value)} (h:vb P k hz v m):∃ ob,Ra hz v ob:=by
 rcases h with h| ⟨b,es,c,h1,h2,h3⟩;exact ⟨(#[],0),.inl h.1⟩;exact ⟨(es,c),.inr ⟨b,h1,h2⟩⟩
section
variable {X:Vx} {n:Nat} {W:cV} {F:List Atom} {b:Bs} {E:Env} {g w:World} {s:Ov} {a:Act} {o:Oper}
variable {P:Program} {T:UTy} {u mb:Nat} {q1 q2 nx:Int} {L:List (Int×rY)} {z:Option rY} {hz h:Hp} {R:List Atom}
theorem ZU {P P':Program} {t:TypeId} {k:Kk} (h1:ke P t k=true) (h2:ke P' t k=true) {v:Value} {ob:Array MapEntry×Nat} {r:Nat} {left:List (k.den×Value)} {cur:Option (k.den×Value)} {hh:Hp} (s:(@mL k.den k.key P t v ob r left cur).sat g hh):(@mL k.den k.key P' t v ob r left cur).sat g hh:=by
 have yX:WideElems.rg P' t eK=WideElems.rg P t eK:=funext (by grind [WideElems.rg, WideElems.rd, xf]);refine ⟨?_,s.2⟩;rcases s.1 with h| ⟨b,since,seen,c0,h3,h4,h5,h6,h7,h8⟩;exact .inl h;exact .inr ⟨b,since,seen,c0,h3,h4,h5,h6,h7,by rw [yX];exact h8⟩
theorem agD {t:TypeId} {k:Kk} (h:P.underlying t=some k.tV):ke P t k=true:=by
 unfold ke;rw [h];cases k<;>rfl
theorem PK {kt tR:TypeId} {e:Ty} {M:List (Int×Nat×e.den)} (H:SL W g w (⟨λg h=>h=hz/\(pmA kt tR e M (ptr mb 0)).sat g h,λm ⟨h1,h2⟩=>⟨h1,Atom.mono _ m h2⟩⟩::R)) (hk:ke P kt .int=true): @vb Int Kk.int.key P kt hz (.map (some mb)) (td M)/\∀ b o,hz b=some o->w.heap[b]?=some o:=by
 obtain ⟨k,be,se,ow,h1,h2,ap,rfl,⟨rfl,x,k1,k2,ap2,e2,⟨hv,hu⟩,s3⟩,s4⟩:=H;refine ⟨?_,by grind [Hp.fK]⟩;obtain ⟨h',i,s5⟩:=Cb (A:=mapA x.2 kt x.1 (td M)) (by simp) s3;have hx:mb=x.1:=by grind
 obtain ⟨es,c,j1,j2⟩:=Jt (k:=.int) (agD (k:=.int) hu) hk s5;rw [hx];exact vb.sub (hz:=h') (.inr ⟨x.1,es,c,rfl,j1,j2⟩) λb o q=>by rw [e2];exact Hp.sub.right ap2 b o (i b o q)
theorem alG (S:df n W F b E g w s a) {l:Nat} {b0:Nat} (h:E[l]?=some (ptr b0 0)) {kt tR:TypeId} {e:Ty} {M:List (Int×Nat×e.den)} (ho:b.obj s l= .ab (.pm kt tR e M)):∃ hz,SL W g w (⟨λg h=>h=hz/\(pmA kt tR e M (ptr b0 0)).sat g h,λm ⟨h1,h2⟩=>⟨h1,Atom.mono _ m h2⟩⟩::dJ (a8 E 0 (b.heap s)++F) l):=by
 have H:=S.pick h;rw [ho] at H;obtain ⟨k,be,se,ow,h1,h2,ap,q,⟨v',s1,s3⟩,s4⟩:=H;rw [h] at s1;obtain rfl:=aj s1;exact ⟨h1,k,be,se,ow,h1,h2,ap,q,⟨rfl,s3⟩,s4⟩
theorem VF (S:df n W F b E g w s a) {kt t et:TypeId} {e:Ty} {x:Operand} {l:Nat} {M:List (Int×Nat×e.den)} {K:SV->Ov->Prop} (ho:o.op= .range t x) (hx:a.eval x= .map (some mb)) (ht:X.P.underlying t=some (.map kt et)) (hkt:X.P.underlying kt=some (.int .i64)) (hm: @vb Int Kk.int.key X.P kt hz (.map (some mb)) (td M)) (hi:∀ b o,hz b=some o->w.heap[b]?=some o)
  (h:K (.c (.p s.n 0)) (s.new (.ab (.PN kt l e hz mb M none)))):∃ v w',(execOp a.eval o).run X.P w= .ok (.value v) w'/\Out n W F b E g a K v w':=by
 obtain ⟨ob,eD⟩:=hm.ob;obtain ⟨oo,jt,Eg⟩:=Vn (hm.o hi eD) ht;refine ⟨ptr w.heap.size 0,w.alloc oo,by simp_all [execOp],E++ [ptr w.heap.size 0],g,_,.c (.p s.n 0),bu.app E _,bt.refl g,S.new (v:=ptr w.heap.size 0) (bt.refl g) ?_,(show dd _ g (.c (.p s.n 0)) _ from ⟨w.heap.size,dX S _,rfl⟩),h⟩;have H1:=(Eg S.sat.sl).ajA;have H2:SL W g (w.alloc oo) (aev kt hz mb M none (ptr w.heap.size 0)::(a8 E 0 (b.heap s)++F)):=
  SL.zU (f:=λx:Nat×Program×(Array MapEntry×Nat)=>[tf (ptr w.heap.size 0=ptr x.1 0/\x.2.1.underlying kt=some (.int .i64)/\Ra hz (.map (some mb)) x.2.2),mL x.2.1 kt (.map (some mb)) x.2.2 x.1 (td M) ((none:Option (Int×Nat×e.den)).map λp=>(p.1,ptr p.2.1 0))]) (w.heap.size,X.P,ob) (H1.pr (by grind))
 exact H2.cv λ_ ⟨k1,k2,ap,e,s1,s2⟩=>⟨k1,k2,ap,e,⟨_,dX S _,s1⟩,s2⟩
theorem Pg (S:df n W F b E g w s a) {t:TypeId} {x:Operand} {c:Cl} {K:SV->Ov->Prop} (ho:o.op= .range t x) (r:ck E g c (a.eval x)) (h:Ps X b s t c K):
  ∃ v w',(execOp a.eval o).run X.P w= .ok (.value v) w'/\Out n W F b E g a K v w':=by
 unfold Ps at h;split at h
 .rename_i z ht;obtain ⟨hx,hz⟩:=r;have H:=S.sat.sl.new (xH.mk' w (.stringIter z 0));refine ⟨_,_,OH ho ht hx,E++ [ptr w.heap.size 0],g,_,_,bu.app E _,bt.refl g,S.new (v:=ptr w.heap.size 0) (bt.refl g) ?_,(show dd _ g (.c (.p s.n 0)) _ from ⟨_,dX S _,rfl⟩),h⟩;exact H.cv λk ⟨k1,k2,ap,q,s1,s2⟩=>⟨k1,k2,ap,q,⟨_,dX S _,hz,_,rfl,s1⟩,s2⟩
 .rename_i kt et l ht;obtain ⟨b0,hE,hx⟩:=r;split at h
  .rename_i kt' tR e M eD;have hQ:=dc h;obtain ⟨hc,h⟩:=hQ;rw [ao] at hc;obtain rfl:=ai hc.1;obtain ⟨hz,H⟩:=alG S hE eD;have hu:=lG hc.2;have S1:df n W F b E g w (s.dR l (.ab (.pz kt tR e M hz b0))) a:=S.back hE _ (bt.refl g) (H.cv λ_ ⟨k1,k2,ap,q,s1,s2⟩=>⟨k1,k2,ap,q,⟨_,hE,rfl,s1⟩,s2⟩);obtain ⟨_,H2⟩:=Uz S1 hE (by rw [jr,if_pos rfl]);obtain ⟨hm,hi⟩:=PK H2 hc.2;exact VF S1 ho hx ht hu hm hi (h hz b0)
  grind
 grind
theorem Jk (S:df n W F b E g w s a) {l:Nat} (h:b.obj s l≠ .gone):∃ v,E[l]?=some v:=by
 by_cases hl:l< s.n;exact ⟨E[l]'(by rw [S.len];exact hl),aq _⟩;exact absurd (S.top l (by omega)) h
theorem acU (S:df n W F b E g w s a) {li bb:Nat} (hE:E[li]?=some (ptr bb 0)) {kt:TypeId} {l:Nat} {e:Ty} {left:List (Int×Nat×e.den)} {cur:Option (Int×Nat×e.den)} (eD:b.obj s li= .ab (.PN kt l e hz mb left cur)) (hP:ke P kt .int=true):
  ∃ ob,Ra hz (.map (some mb)) ob/\SL W g w (@mL Int Kk.int.key P kt (.map (some mb)) ob bb (td left) (cur.map λp=>(p.1,ptr p.2.1 0))::dJ (a8 E 0 (b.heap s)++F) li):=by
 have H:=S.pick hE;rw [eD] at H;have H1:SL W g w (aev kt hz mb left cur (ptr bb 0)::dJ (a8 E 0 (b.heap s)++F) li):=H.cv λ_ ⟨k1,k2,ap,e,⟨v',s1,s2⟩,s3⟩=>by
  rw [hE] at s1;obtain rfl:=aj s1;exact ⟨k1,k2,ap,e,s2,s3⟩
 obtain ⟨⟨r,P',ob⟩,H2⟩:=SL.CV H1;obtain ⟨⟨hr,hu,ho⟩,H3⟩:=SL.pure H2;obtain rfl:bb=r:=by grind
 exact ⟨ob,ho,H3.cv λ_ ⟨k1,k2,ap,e,s1,s2⟩=>⟨k1,k2,ap,e,ZU (k:=.int) (agD (k:=.int) hu) hP s1,s2⟩⟩
theorem Zf {li bb:Nat} (hE:E[li]?=some (ptr bb 0)) {kt:TypeId} {l:Nat} {e:Ty} {left:List (Int×Nat×e.den)} {cur:Option (Int×Nat×e.den)} {ob:Array MapEntry×Nat} {w':World} (hP:P.underlying kt=some (.int .i64)) (ho:Ra hz (.map (some mb)) ob) (H:SL W g w' (@mL Int Kk.int.key P kt (.map (some mb)) ob bb (td left) (cur.map λp=>(p.1,ptr p.2.1 0))::R)):SL W g w' (cF E li (.ab (.PN kt l e hz mb left cur))::R):=by
 have H2:SL W g w' (aev kt hz mb left cur (ptr bb 0)::R):=
  SL.zU (f:=λx:Nat×Program×(Array MapEntry×Nat)=>[tf (ptr bb 0=ptr x.1 0/\x.2.1.underlying kt=some (.int .i64)/\Ra hz (.map (some mb)) x.2.2),mL x.2.1 kt (.map (some mb)) x.2.2 x.1 (td left) (cur.map λp=>(p.1,ptr p.2.1 0))]) (bb,P,ob) (H.pr (by grind))
 exact H2.cv λ_ ⟨k1,k2,ap,e,s1,s2⟩=>⟨k1,k2,ap,e,⟨_,hE,s1⟩,s2⟩
theorem Vq (S:df n W F b E g w s a) {x:Operand} {c:Cl} {K:SV->Ov->Prop} (ho:o.op= .next x false) (r:ck E g c (a.eval x)) (h:ZA X.P b s c K):
  ∃ v w',(execOp a.eval o).run X.P w= .ok (.value v) w'/\Out n W F b E g a K v w':=by
 unfold ZA at h;split at h
 .rename_i li;obtain ⟨bb,hE,hx⟩:=r;split at h
  .rename_i kt l e hz mb left cur eD;split at h
   .rename_i kt' tR e' M Xe OS Z8;have hQ:=dc h;obtain ⟨hc,rfl,rfl,h1,h2⟩:=hQ;rw [ao] at hc;obtain rfl:=ai hc.1;obtain ⟨lv,hEl⟩:=Jk S (l:=l) (by rw [Z8];exact λe=>by cases e);obtain ⟨rfl,H⟩:=Uz S hEl Z8;obtain ⟨hmi,hi⟩:=PK H hc.2;obtain ⟨ob,aeZ,H1⟩:=acU S hE eD hc.2;have hmo:=hmi.o hi aeZ;rcases H1.V0 hmo (A6 hc.2) o.type with ⟨hl,jt⟩| ⟨x',y',mK,w',hp,hkx,aad,jt,H2⟩
    .have Al:left= []:=by
      simp_all [td]
     exact ⟨_,w,by simp_all [execOp],E,g,s,.cC [.c (.k (.bool false))],bu.refl E,bt.refl g,S,⟨_,⟨_,_,rfl,⟨rfl,rfl⟩,rfl⟩,rfl⟩,h1 Al⟩
    .have r6:(x',y')∈td left:=by grind
     obtain ⟨p,hp1,hp2⟩:=bp.1 r6;obtain ⟨aa,cc,hac⟩:=List.append_of_mem hp1;cases hp2;have hlp:left.Perm (p::(aa++cc)):=by simp_all
     have apQ:(td (aa++cc)).Perm mK:=by
      have e1:(td left).Perm ((p.1,ptr p.2.1 0)::td (aa++cc)):=hlp.map λp:Int×Nat×e.den=>(p.1,ptr p.2.1 0);exact List.Perm.cons_inv (e1.symm.trans hp)
     have hk:aB .i64 p.1:=oO.2 hkx;have H3:SL W g w' (mL X.P kt (.map (some OS)) ob bb (td (aa++cc)) (some (p.1,ptr p.2.1 0))::dJ (a8 E 0 (b.heap s)++F) li):=H2.cv λ_ ⟨k1,k2,ap,e,s1,s2⟩=>⟨k1,k2,ap,e,Qe apQ.symm s1,s2⟩;refine ⟨.tuple #[.bool true,dK.val p.1,ptr p.2.1 0],w',by simp_all [execOp],E,g,_,.cC [.c (.k (.bool true)),.c (.k (.int .i64 p.1)),.c (.kl l (ptr p.2.1 0))],bu.refl E,bt.refl g,S.back hE _ (bt.refl g) (Zf (cur:=some p) hE (lG hc.2) aeZ H3),?_,h2 p.1 p.2.1 p.2.2 (aa++cc) hlp hk⟩;exact ⟨_,⟨_,_,rfl,⟨rfl,rfl⟩,_,_,rfl,⟨rfl,hk⟩,_,_,rfl,⟨⟨_,hEl⟩,rfl,rfl⟩,rfl⟩,rfl⟩
   grind
  grind
 grind
theorem aiQ {k:Kk} {x y:k.den} (h: @dK.val k.den k.key x= @dK.val k.den k.key y):x=y:=by
 cases k
 .have:Value.int .i64 x= .int .i64 y:=h
  grind
 .have:Value.string x= .string y:=h
  grind
theorem Pn (S:df n W F b E g w s a) {x:Operand} {c:Cl} {K:SV->Prop} (ho:o.op= .entry x) (r:ck E g c (a.eval x)) (h:QB X.P b s c K):ER X.P o a w E g K:=by
 unfold QB at h;split at h
 .rename_i li;obtain ⟨bb,hE,hx⟩:=r;split at h
  .rename_i kt l e hz mb left cur eD;split at h
   .rename_i kt' tR e' M Xe OS Z8;have hQ:=dc h;obtain ⟨hc,x',b',y',rfl,rfl,rfl,h1⟩:=hQ;rw [ao] at hc;obtain rfl:=ai hc.1;obtain ⟨lv,hEl⟩:=Jk S (l:=l) (by rw [Z8];exact λe=>by cases e);obtain ⟨rfl,H⟩:=Uz S hEl Z8;obtain ⟨hmi,hi⟩:=PK H hc.2;obtain ⟨ob,aeZ,H1⟩:=acU S hE eD hc.2;have hmo:=hmi.o hi aeZ;have H2:SL W g w (mL X.P kt (.map (some OS)) ob bb (td left) (some (x',ptr b' 0))::dJ (a8 E 0 (b.heap s)++F) li):=H1;have jt:=H2.V1 hmo;obtain ⟨hkx,aad⟩:=H2.Qd hmo (A6 hc.2) λ_ _ e=>aiQ (k:=.int) e;have hk:aB .i64 x':=oO.2 hkx;refine ⟨_,.cC [.c (.k (.int .i64 x')),.c (.kl l (ptr b' 0))],by simp [execOp,ho,hx,ptr];rw [jt];rfl,?_,h1 hk⟩;exact ⟨_,⟨_,_,rfl,⟨rfl,hk⟩,_,_,rfl,⟨⟨_,hEl⟩,rfl,rfl⟩,rfl⟩,rfl⟩
   grind
  grind
 grind
end
section
variable {X:Vx} {n:Nat} {W:cV} {F:List Atom} {b:Bs} {E:Env} {g w:World} {s:Ov} {a:Act} {o:Oper}
variable {P:Program} {T:UTy} {u mb:Nat} {q1 q2 nx:Int} {L:List (Int×rY)} {R:List Atom}
theorem Ch (S:df n W F b E g w s a) {t:TypeId} {x y:Operand} {cx cy:Cl} {K:SV->Ov->Prop} (ho:o.op= .makeSlice t x y) (rx:ck E g cx (a.eval x)) (ry:ck E g cy (a.eval y)) (h:vP X s t cx cy K):
  ∃ v w',(execOp a.eval o).run X.P w= .ok (.value v) w'/\Out n W F b E g a K v w':=by
 unfold vP at h;split at h
 .rename_i et c d ht;have hQ:=dc h;obtain ⟨hu,rfl,h0,h1,h⟩:=hQ;obtain ⟨hx,_⟩:=rx;obtain ⟨hy,_⟩:=ry;unfold Nu at hu;split at hu
  .rename_i i hq;rw [ao] at hu;obtain ⟨hs,hu⟩:=hu;have hs:=ai hs;split at hu
   .rename_i GW;have hb:=ai hu;have hr:=run_make (P:=X.P) w t et i (.int .u8 0) ht hq GW .i64 .i64 c c h0 (bh _) (by grind) (by omega);have Qr:madeCells (Value.int .u8 0).cells (c.toNat*i.size)=(bV (au c.toNat 0)).toArray:=by
     apply Array.ext_getElem?;intro j;simp only [madeCells,bV,Value.cells,List.map_replicate]
     grind
    rw [Qr] at hr;have H1:=S.sat.sl.new (xH.mk' w (.cells (bV (au c.toNat (0:UInt8))).toArray et (0,0)));have H2:=SL.wE (size:=1) (cap:=c.toNat) c.toNat H1 (aG _) (by grind [maxLen]) (by simp [bV]);have e1:(bV (au c.toNat (0:UInt8))).toArray.toList.take (c.toNat*1)=bV (au c.toNat 0):=by
     rw [aL (by simp [bV])]
    rw [e1] at H2;have H3:SL W g _ (pD .u8 et (.slice (some ⟨w.heap.size,0,none⟩) c.toNat c.toNat) (au c.toNat (0:UInt8))::(a8 E 0 (b.heap s)++F)):=SL.slB (by rw [aX];exact H2);split at h
    .obtain ⟨g1,m1,H4,hi⟩:= @SL.qF Ty.u8.den Ty.u8.rep _ _ _ _ _ _ _ H3;refine ⟨.slice (some ⟨w.heap.size,0,none⟩) c.toNat c.toNat,_,by simp [execOp,ho,hx,hy,hr];rfl,E++ [_],g1,_,_,bu.app E _,m1,S.new (v:=.slice (some ⟨w.heap.size,0,none⟩) c.toNat c.toNat) m1 ?_,(show dd _ g1 (.c (.o s.n)) _ from ⟨dX S _,_,_,_,rfl⟩),h⟩;exact H4.cv λk s2=>⟨λ_=>none,k,λ_=>.inl rfl,rfl,⟨_,dX S _,hi⟩,s2⟩
    refine ⟨.slice (some ⟨w.heap.size,0,none⟩) c.toNat c.toNat,_,by simp [execOp,ho,hx,hy,hr];rfl,E++ [_],g,_,_,bu.app E _,bt.refl g,S.new (v:=.slice (some ⟨w.heap.size,0,none⟩) c.toNat c.toNat) (bt.refl g) ?_,(show dd _ g (.c (.o s.n)) _ from ⟨dX S _,_,_,_,rfl⟩),h⟩;exact H3.cv λk ⟨k1,k2,ap,q,s1,s2⟩=>⟨k1,k2,ap,q,⟨_,dX S _,s1⟩,s2⟩
   grind
  grind
 grind
end
section
variable {X:Vx} {n:Nat} {W:cV} {F:List Atom} {b:Bs} {E:Env} {g g' w w':World} {s:Ov} {a:Act} {o:Oper}
theorem df.split (S:df n W F b E g w s a) {l:Nat} {u v:Value} {o1 o2:HO} (h:E[l]?=some u) (m:bt g g') (H:SL W g' w' (cF (E++ [v]) l o1::cF (E++ [v]) s.n o2::dJ (a8 E 0 (b.heap s)++F) l)):df n W F b (E++ [v]) g' w' ((s.dR l o1).new o2) a:=by
 have hl:=S.lt h;have hln:s.n=(b.heap s).length:=dW.symm;refine ⟨S.size,S.defers,λt u hu=>(S.fr t u hu).mono (bu.app E [v]) m,⟨?_,?_⟩,λk hk=>?_⟩
 .rw [tA,jx hl];refine H.cv λh0 ⟨h1,h2,ap,e,s1,h3,h4,ap2,e2,s2,s3⟩=>?_;have N:=jT (E:=E) (F:=F) (k:=0) (eL (b:=b) hl);have fB:l< (b.heap s).length:=by omega
  have h5:=kM (E:=E) (F:=F) (k:=0) (o':=.gone) fB;have s4:bd g' (a8 E 0 ((b.heap s).set l .gone)++F) h4:=by
   rw [<-h5];exact bd.ou N ⟨λ_=>none,h4,λ_=>.inl rfl,by rfl,trivial,s3⟩
  have s5:=a8.env (bu.app E [v]) s4;have s6:bd g' (a8 (E++ [v]) 0 ((b.heap s).set l .gone++ [o2])++F) h2:=by
   rw [oX,aM,gA,jc,<-hln];exact bd.toEnd ⟨h3,h4,ap2,e2,s2,s5⟩
  have s7:=bd.Em (E:=E++ [v]) (F:=F) (H:=(b.heap s).set l .gone++ [o2]) (l:=l) (o:=o1) (by grind) ⟨h1,h2,ap,e,s1,s6⟩;simp_all
 .rw [tA,jx hl];simp [S.sat.len]
 .have AK:s.n+1<=k:=hk;rw [ue,if_neg (by show ¬s.n=k;omega),jr,if_neg (by omega)];exact S.top k (by omega)
theorem df.join (S:df n W F b E g w s a) {l q:Nat} {u v:Value} {o1:HO} (hl:E[l]?=some u) (hq:E[q]?=some v) (ja:q≠l) (m:bt g g') (k:∀ R,SL W g w (cF E l (b.obj s l)::cF E q (b.obj s q)::R)->SL W g' w' (cF E l o1::R)):df n W F b E g' w' ((s.dR q .gone).dR l o1) a:=by
 have Al:=S.lt hl;have Xg:=S.lt hq;refine ⟨S.size,S.defers,λt u hu=>(S.fr t u hu).mono (bu.refl E) m,⟨?_,?_⟩,λk hk=>?_⟩
 .rw [jx (s:=s.dR q .gone) (show l< s.n from Al),jx Xg];have H1:SL W g w (cF E l (b.obj s l)::cF E q (b.obj s q)::(a8 E 0 (((b.heap s).set q .gone).set l .gone)++F)):=S.sat.sl.cv λh0 x=>by
   obtain ⟨h1,h2,ap,e,s1,s2⟩:=bd.sk (eL (b:=b) Xg) x;have NG:((b.heap s).set q .gone)[l]?=some (b.obj s l):=by
    grind [eL]
   have s3:=bd.sk NG s2;exact bd.swap ⟨h1,h2,ap,e,s1,s3⟩
  exact (k _ H1).cv λh0 x=>by
   have:=bd.Em (l:=l) (by simp [dW];exact Al) x;simp_all
 .rw [jx (s:=s.dR q .gone) (show l< s.n from Al),jx Xg];simp [S.sat.len]
 .rw [jr,if_neg (by have:s.n<=k:=hk;omega),jr,if_neg (by have:s.n<=k:=hk;omega)];exact S.top k hk
theorem bd.wider:∀ {L:List Atom} {k1 k2:Hp},Hp.apart k1 k2->bd g L k2->bd g L (k1.join k2)
 | [],_,_,_,_=>trivial
 | a::L,k1,k2,ap,⟨m1,m2,ap3,e3,s4,s5⟩=>by
  subst e3;obtain ⟨a1,a2⟩:=Hp.eM.1 ap;refine ⟨m1,k1.join m2,Hp.eM.2 ⟨a1.symm,ap3⟩,?_,s4,bd.wider a2 s5⟩;rw [<-Hp.join_assoc,Hp.join_comm a1,Hp.join_assoc]
theorem bd.YK:∀ {A B:List Atom} {h:Hp},bd g (A++B) h->bd g B h
 | [],_,_,s=>s
 | a::A,B,h,⟨h1,h2,ap,e,_,s2⟩=>by rw [e];exact bd.wider ap (bd.YK s2)
theorem wI {α:Type}:∀ {l:List α} {i:Nat} {x:α},l[i]?=some x->l.set i x=l
 | [],_,_,h=>by simp at h
 | y::l,0,x,h=>by
  obtain rfl:y=x:=by simpa using h
  rfl
 | y::l,i+1,x,h=>by
  rw [List.set_cons_succ,wI (by simpa using h)]
theorem Dr {A R:List Atom}:∀ {i:Nat},i< A.length->dJ (A++R) i=dJ A i++R:=by
 induction A with
 | nil=>grind
 | cons x A ih=>
  intro i h;cases i with
  | zero=>rfl
  | succ i=>
   grind [dJ]
theorem CW {α:Type} {f:α->Atom} {R:List Atom}:∀ {l:List α} {i:Nat} {x:α},l[i]?=some x->wX (l.map f++R) i=some (f x)
 | [],_,_,h=>by simp at h
 | y::l,0,x,h=>by
  obtain rfl:y=x:=by simpa using h
  rfl
 | y::l,i+1,x,h=>CW (l:=l) (i:=i) (by simpa using h)
theorem Mj {α:Type} {f:α->Atom} {R:List Atom} {x:α}:∀ {l:List α} {i:Nat},i< l.length->xV (l.map f++R) i (f x)=(l.set i x).map f++R
 | [],_,h=>by simp at h
 | y::l,0,h=>rfl
 | y::l,i+1,h=>by
  show f y::xV (l.map f++R) i (f x)=f y::((l.set i x).map f++R);rw [Mj (l:=l) (by simpa using h)]
theorem Hb {α:Type} {f:α->Atom}:∀ {l:List α} {i:Nat},dJ (l.map f) i=(l.eraseIdx i).map f
 | [],_=>rfl
 | _::l,0=>rfl
 | y::l,i+1=>by
  show f y::dJ (l.map f) i=f y::(l.eraseIdx i).map f;rw [Hb (l:=l)]
theorem SL.Ss {α:Type} {f:α->Atom} {l:List α} {i:Nat} {x:α} {A:Atom} {R:List Atom} (hi:l[i]?=some x) (H:SL W g w (A::(l.map f++R))):SL W g w (f x::A::(dJ (l.map f) i++R)):=by
 have fB:=(aw.1 hi).1;refine H.cv λh0 ⟨h1,h2,ap,e,s1,s2⟩=>?_;have s3:=bd.pick (CW (f:=f) (R:=R) hi) s2;rw [Dr (by rw [bT];exact fB)] at s3;exact bd.swap ⟨h1,h2,ap,e,s1,s3⟩
theorem SL.amF {α:Type} {f:α->Atom} {l:List α} {i:Nat} {x y:α} {A:Atom} {R:List Atom} (hi:l[i]?=some x) (H:SL W g w (f y::A::(dJ (l.map f) i++R))):SL W g w (A::((l.set i y).map f++R)):=by
 have fB:=(aw.1 hi).1;refine H.cv λh0 s=>?_;obtain ⟨h1,h2,ap,e,s1,s2⟩:=s.swap;refine ⟨h1,h2,ap,e,s1,?_⟩;rw [<-Dr (R:=R) (by rw [bT];exact fB)] at s2;have s3:=bd.ou (CW (f:=f) (R:=R) hi) s2
 grind [Mj]
theorem ah4 (S:df n W F b E g w s a) {l bb:Nat} (hE:E[l]?=some (ptr bb 0)) {kt tI:TypeId} {M:uL} (eD:b.obj s l= .ab (.ch kt tI M)) {P:Program} (hk:xh P kt=true):SL W g w (mapA P kt bb (vT M)::(M.map (Pc tI)++dJ (a8 E 0 (b.heap s)++F) l)):=by
 have H:=S.pick hE;rw [eD] at H;have H1:SL W g w (chA kt tI M (ptr bb 0)::dJ (a8 E 0 (b.heap s)++F) l):=H.cv λ_ ⟨k1,k2,ap,q,⟨v,h1,h2⟩,h3⟩=>⟨k1,k2,ap,q,by
  rw [hE] at h1;obtain rfl:=aj h1;exact h2,h3⟩
 obtain ⟨⟨mb,P'⟩,H2⟩:=SL.CV H1;obtain ⟨⟨hv,hu⟩,H3⟩:=SL.pure H2;have hbb:bb=mb:=by grind
 exact H3.cv λ_ ⟨k1,k2,ap,q,h1,h2⟩=>⟨k1,k2,ap,q,by grind [w9, Ai],h2⟩
theorem Gd {t tI:TypeId} {P:Program} (h:H9 P t tI=true):(zeroValue t).run P w= .ok (.slice none 0 0) w:=by
 unfold H9 at h;split at h
 .rw [ao] at h;split at h
  .simp_all [zeroValue, typeInfo]
  grind
 grind
theorem xk {M:uL} {key:K3}:(∃ (i:Nat) (v:Value) (xs:List Int),M[i]?=some (key,v,xs)/\iS (vT M) key=some v)\/((∀ p∈M,p.1≠key)/\iS (vT M) key=none):=by
 cases hg:iS (vT M) key with
 | none=>
  right;refine ⟨λp hp e=>?_,rfl⟩;exact (oa.1 hg) (p.1,p.2.1) (bp.2 ⟨p,hp,rfl⟩) e
 | some v=>
  have:=oR hg;obtain ⟨p,hp,hq⟩:=bp.1 this
  grind [List.getElem?_of_mem]
theorem Tn {cs:List Cl} {key:K3} {u:Value} (h:aeP cs=some key) (r:gr E g (.agg cs) u):u=dK.val key:=by
 unfold aeP at h;split at h
 .rename_i x y z;obtain rfl:=aj h;obtain ⟨us,h1,rfl⟩:=r;obtain ⟨_,_,rfl,⟨rfl,hx⟩,_,_,rfl,⟨rfl,hy⟩,_,_,rfl,⟨rfl,hz⟩,h4⟩:=h1;rw [show _= [] from h4];have key:∀ n:Int,aB .u8 n->((az n.toNat).toNat:Int)=n:=λn hn=>by
   obtain ⟨h0,h1⟩:=hn;simp; omega
  show _=K3.v _;unfold K3.v;simp only [key x hx,key y hy,key z hz]
 grind
theorem aaG (S:df n W F b E g w s a) {l bb:Nat} (hE:E[l]?=some (ptr bb 0)) {kt tI:TypeId} {M:uL} {P:Program} (hk:xh P kt=true) {key:K3} {val:Value} {st:Option Nat} {R:List Atom} (hR:R=dJ (a8 E 0 (b.heap s)++F) l) (hnd:((vT M).map (·.1)).Nodup)
  (hv:val=(iS (vT M) key).getD (.slice none 0 0)) (H:SL W g w' (P4 P kt bb M key val st::(M.map (Pc tI)++R))):
  ∃ o xs,FindM M key o xs/\df n W F b (E++ [val]) g w' ((s.dR l (.pL (.ch kt tI M o key st) s.n)).new (.sl tI (.int .i64) xs)) a:=by
 have fin:∀ (o:Option (Nat×Value)) (xs:List Int),af7 M o key st val->SL W g w' (pD (.int .i64) tI val xs::P4 P kt bb M key val st::(aez (M.map (Pc tI)) o++R))->df n W F b (E++ [val]) g w' ((s.dR l (.pL (.ch kt tI M o key st) s.n)).new (.sl tI (.int .i64) xs)) a:=λo xs ho H2=>by
  refine S.split hE (bt.refl g) ?_;have hn:(E++ [val])[s.n]?=some val:=dX S _;have hl:(E++ [val])[l]?=some (ptr bb 0):=by grind
  have H3:SL W g w' ((HK.ch kt tI M o key st).atom (ptr bb 0) val::pD (.int .i64) tI val xs::dJ (a8 E 0 (b.heap s)++F) l):=by
   refine SL.zU (bb,P,val) (SL.pr (by grind) ?_);refine H2.cv λh0 s0=>?_;obtain ⟨h1,h2,ap,e,s1,s2⟩:=s0.swap;refine ⟨h1,h2,ap,e,s1,?_⟩;simp_all [bd.toEnd]
  exact H3.cv λh0 ⟨h1,h2,ap,e,s1,h3,h4,ap2,e2,s2,s3⟩=>⟨h1,h2,ap,e,⟨_,_,hl,hn,s1⟩,h3,h4,ap2,e2,⟨_,hn,s2⟩,s3⟩
 rcases xk (M:=M) (key:=key) with ⟨i,v,xs,hi,hg⟩| ⟨kA,hg⟩
 .rw [hg] at hv;subst hv;exact ⟨some (i,val),xs,.at i val xs hi,fin _ _ ⟨⟨xs,hi⟩,λ_=>rfl⟩ (SL.Ss (f:=Pc tI) hi H)⟩
 .rw [hg] at hv;subst hv;exact ⟨none,[],.no kA,fin _ _ kA (SL.zT (Ty.int .i64).den tI H)⟩
theorem Po (S:df n W F b E g w s a) {t:TypeId} {x y:Operand} {mx:Cl} {cs:List Cl} {K:SV->Ov->Prop} (ho:o.op= .lookup t x y false) (rx:ck E g mx (a.eval x)) (ry:gr E g (.agg cs) (a.eval y)) (h:JY X b s t mx cs K):
  ∃ v w',(execOp a.eval o).run X.P w= .ok (.value v) w'/\Out n W F b E g a K v w':=by
 unfold JY at h;split at h
 .rename_i k et l ht;obtain ⟨bb,hE,hx⟩:=rx;split at h
  .rename_i kt tI M key eD Dh;have hQ:=dc h;obtain ⟨hc,h⟩:=hQ;simp only [ao] at hc;obtain ⟨h1,h2,h3⟩:=hc;obtain rfl:=ai h1;have H:=ah4 S hE eD h2;have KT:=Jy h2;have hy:=Tn Dh ry;have hl:=(SL.aeJ H).look false KT ht (Gd h3) key trivial;obtain ⟨oo,xs,hf,S1⟩:=aaG S hE (tI:=tI) h2 (key:=key) (st:=none) rfl ((SL.aeJ H).nodup KT) rfl H;exact ⟨_,w,xF ho hx hy hl,_,g,_,.c (.o s.n),bu.app E _,bt.refl g,S1,⟨dX S _,by
    cases hf with
    | «at» i v xs hi=>
     rcases xk (M:=M) (key:=key) with ⟨i',v',xs',r8,hg⟩| ⟨kA,hg⟩
     .have H5:=SL.Ss (f:=Pc tI) r8 H;obtain ⟨q,m,cc,hq,_⟩:=n9 (e:=.int .i64) (pK H5)
      grind
     grind
    | no kA=>
     rcases xk (M:=M) (key:=key) with ⟨i',v',xs',r8,hg⟩| ⟨_,hg⟩
     .grind
     grind⟩,h oo xs hf⟩
  grind
 grind
theorem Vv (S:df n W F b E g w s a) {t:TypeId} {x y:Operand} {mx:Cl} {cs:List Cl} {K:SV->Ov->Prop} (ho:o.op= .mapEntry t x y) (rx:ck E g mx (a.eval x)) (ry:gr E g (.agg cs) (a.eval y)) (h:QP X b s t mx cs K):
  ∃ v w',(execOp a.eval o).run X.P w= .ok (.value v) w'/\Out n W F b E g a K v w':=by
 unfold QP at h;split at h
 .rename_i k et l ht;obtain ⟨bb,hE,hx⟩:=rx;split at h
  .rename_i kt tI M key eD Dh;have hQ:=dc h;obtain ⟨hc,hlen,h⟩:=hQ;simp only [ao] at hc;obtain ⟨h1,h2,h3⟩:=hc;obtain rfl:=ai h1;have H:=ah4 S hE eD h2;have KT:=Jy h2;have hy:=Tn Dh ry;obtain ⟨val,st,w',jt,H1,_,hval⟩:=SL.VT H KT ht (Gd h3) (by unfold vT;rw [bT];assumption) key trivial;obtain ⟨oo,xs,hf,S1⟩:=aaG S hE (tI:=tI) h2 (key:=key) (val:=val) (st:=some st) rfl ((SL.aeJ H).nodup KT) hval H1;have Eg:∃ q m c,val= .slice q m c:=by
    rcases xk (M:=M) (key:=key) with ⟨i',v',xs',r8,hg⟩| ⟨_,hg⟩
    .have H5:=SL.Ss (f:=Pc tI) r8 H;obtain ⟨q,m,cc,hq,_⟩:=n9 (e:=.int .i64) (pK H5)
     grind
    grind
   refine ⟨.tuple #[val,goInt st],w',by simp_all [execOp],_,g,_,.cC [.c (.o s.n),.c (.kl l (.int .i64 st))],bu.app E _,bt.refl g,S1,?_,by grind⟩;exact ⟨_,⟨_,_,rfl,(show ck _ g (.o s.n) val from ⟨dX S _,Eg⟩),_,_,rfl,⟨by grind,rfl,rfl⟩,rfl⟩,rfl⟩
  grind
 grind
theorem afl {M:uL} {i:Nat} {key:K3} {v:Value} {xs:List Int} (hn:((vT M).map (·.1)).Nodup) (hi:M[i]?=some (key,v,xs)):pf (vT M) key=vT (M.eraseIdx i):=by
 have fB:=(aw.1 hi).1;have e0:M=M.take i++(key,v,xs)::M.drop (i+1):=by
  have e1:M.drop i=(key,v,xs)::M.drop (i+1):=by
   rw [bM fB,(aw.1 hi).2]
  rw [<-e1,bK]
 have e2:M.eraseIdx i=M.take i++M.drop (i+1):=List.eraseIdx_eq_take_drop_succ M i;rw [e2];unfold vT at hn ⊢;rw [e0,jb,cw,jb,cw,gv] at hn;obtain ⟨_,h2,h3⟩:=hn;have h2':=gj.1 h2
 conv=>lhs;rw [e0]
 rw [jb,cw,jb];unfold pf;rw [List.filter_append,List.filter_cons];simp only [decide_true,Bool.not_true,dQ,if_false];congr 1
 .refine lr.2 λp hp=>?_;have:p.1≠key:=λe=>h3 p.1 (bp.2 ⟨p,hp,rfl⟩) key (by simp) e;simp [this]
 .refine lr.2 λp hp=>?_;have:p.1≠key:=λe=>h2'.1 (bp.2 ⟨p,hp,e⟩);simp [this]
theorem aaz {M:uL} {key:K3} (h:∀ p∈M,p.1≠key):pf (vT M) key=vT M:=by
 refine lr.2 λp hp=>?_;obtain ⟨q,hq,rfl⟩:=bp.1 hp
 grind
theorem VR {κ:Type} [dK κ] {P P':Program} {t:TypeId} (hk:∀ v,keyOf P t v=keyOf P' t v) {bb:Nat} {m:List (κ×Value)} {x:κ} {st:Nat} {g:World} {hh:Hp}:(GJ P t bb m x st).sat g hh->(GJ P' t bb m x st).sat g hh:=by
 rintro ⟨es,clock,h1,h2,h3⟩;obtain ⟨OW,tF,h1',h2'⟩:=w9 (g:=g) hk (hh:=hh) ⟨es,clock,h1,h2⟩;rw [h1] at h1';cases h1';exact ⟨es,clock,h1,h2',h3⟩
theorem df.two (S:df n W F b E g w s a) {l q:Nat} {u v:Value} (hl:E[l]?=some u) (hq:E[q]?=some v) (ja:q≠l):∃ R,SL W g w (cF E l (b.obj s l)::cF E q (b.obj s q)::R):=by
 refine ⟨a8 E 0 (((b.heap s).set q .gone).set l .gone)++F,S.sat.sl.cv λh0 x=>?_⟩;obtain ⟨h1,h2,ap,e,s1,s2⟩:=bd.sk (eL (b:=b) (S.lt hq)) x;have NG:((b.heap s).set q .gone)[l]?=some (b.obj s l):=by
  rw [List.getElem?_set_ne ja];exact eL (S.lt hl)
 exact bd.swap ⟨h1,h2,ap,e,s1,bd.sk NG s2⟩
theorem aem {tI:TypeId} {M:uL} {o:Option (Nat×Value)}:aez (M.map (Pc tI)) o=(Iq M o).map (Pc tI):=by
 cases o with
 | none=>rfl
 | some p=>exact Hb
theorem afk {M:uL} {o:Option (Nat×Value)} {key:K3} {st:Option Nat} {vn:Value} (hn:((vT M).map (·.1)).Nodup) (h:af7 M o key st vn):pf (vT M) key=vT (Iq M o):=by
 cases o with
 | none=>exact aaz h
 | some p=>
  obtain ⟨⟨xs,hi⟩,_⟩:=h;exact afl hn hi
theorem Vu (S:df n W F b E g w s a) {t:TypeId} {x y z:Operand} {l:Nat} {st:Cl} {u:S1} {K:Ov->Prop} (ho:o.op= .entryStore t x y z) (rx:ck E g (.m l) (a.eval x)) (ry:ck E g st (a.eval y)) (rz:gr E g u (a.eval z)) (h:QO X.P b s t l st u K):
  ∃ w',(execOp a.eval o).run X.P w= .ok .skip w'/\∃ g' s',bt g g'/\df n W F b E g' w' s' a/\K s':=by
 unfold QO at h;split at h
 .rename_i kt tI M oo key m nn l2 x0 q eD;obtain ⟨bb,hE,hx⟩:=rx;obtain ⟨_,hy,_⟩:=ry;split at h
  .rename_i tq eq xs k et Ql ht;have hQ:=dc h;clear h;obtain ⟨hc,h⟩:=hQ;simp only [ao,cY] at hc;obtain ⟨c1,c2,c3,c4⟩:=hc;obtain rfl:=ai c1;obtain rfl:=ai c3;have ja:q≠l:=λe=>by subst e;simp at c2
   split at h
   .rename_i ys Ny;obtain ⟨qe,e1⟩:=eB Ny;subst qe;obtain ⟨rfl,h⟩:=h;have hEq:E[q]?=some (a.eval z):=(show ck E g (.o q) (a.eval z) from rz).1;have H1:∀ R,SL W g w (cF E l (b.obj s l)::cF E q (b.obj s q)::R)->∃ val,(∃ vn,af7 M oo key (some m) vn)/\((vT M).map (·.1)).Nodup/\SL W g w (GJ X.P k bb (qY (vT M) key val) key m::(aez (M.map (Pc tq)) oo++pD (.int .i64) tq (a.eval z) ys::R)):=λR HR=>by
     rw [eD,Ql] at HR;have H2:SL W g w (HK.atom (.ch k tq M oo key (some m)) (ptr bb 0) ((E[nn]?).getD undef)::pD (.int .i64) tq (a.eval z) ys::R):=HR.cv λh0 ⟨h1,h2,ap,e,⟨v,vn,k1,k2,k3⟩,h3,h4,ap2,e2,⟨vz,k4,k5⟩,s3⟩=>⟨h1,h2,ap,e,by
      rw [hE] at k1;obtain rfl:=aj k1;rw [k2];exact k3,h3,h4,ap2,e2,by
      rw [hEq] at k4;obtain rfl:=aj k4;rw [e1];exact k5,s3⟩
     obtain ⟨⟨mb,P,val⟩,H3⟩:=SL.CV H2;obtain ⟨⟨hv,hk,Qk,hnd⟩,H4⟩:=SL.pure H3;have hbb:bb=mb:=by simpa [ptr] using hv
     subst hbb;exact ⟨val,⟨_,Qk⟩,hnd,H4.cv λ_ ⟨k1,k2,ap,q,h1,h2⟩=>⟨k1,k2,ap,q,VR (λv=>Ai hk c4 v) h1,h2⟩⟩
    have KT:=Jy c4;obtain ⟨R0,HR0⟩:=S.two hE hEq ja;obtain ⟨val0,_,_,HA⟩:=H1 R0 HR0;obtain ⟨w',jt,_,_⟩:=SL.entryStore HA KT trivial t (a.eval z);refine ⟨w',?_,g,_,bt.refl g,S.join hE hEq ja (o1:=.ab (.ch k tq ((key,a.eval z,ys)::Iq M oo))) (bt.refl g) (λR HR=>?_),h (a.eval z)⟩
    .have Z3:(Instr.entryStore t (.map (some bb)) (.int .i64 m) (a.eval z)).run X.P w= .ok () w':=jt;simp [execOp,ho,hx,hy,Z3]
    obtain ⟨val,⟨vn,Qk⟩,hnd,HB⟩:=H1 R HR;obtain ⟨w2,agJ,HC,_⟩:=SL.entryStore HB KT trivial t (a.eval z);rw [jt] at agJ;cases agJ;rw [aem] at HC;have e3:qY (vT M) key (a.eval z)=vT ((key,a.eval z,ys)::Iq M oo):=by
     show (key,a.eval z)::pf (vT M) key=_;rw [afk hnd Qk];rfl
    rw [e3] at HC;have HD:SL W g w' (chA k tq ((key,a.eval z,ys)::Iq M oo) (ptr bb 0)::R):=by
     refine SL.zU (bb,X.P) (SL.pr ⟨rfl,c4⟩ ?_);refine HC.cv λh0 ⟨h1,h2,ap,e,s1,s2⟩=>⟨h1,h2,ap,e,s1,?_⟩;exact bd.po s2
    exact HD.cv λh0 ⟨h1,h2,ap,e,s1,s2⟩=>⟨h1,h2,ap,e,⟨_,hE,s1⟩,s2⟩
   .cases h
  .cases h
 .cases h
theorem ah3 (S:df n W F b E g w s a) {l bb:Nat} (hE:E[l]?=some (ptr bb 0)) {kt tR:TypeId} {e:Ty} {M:List (Int×Nat×e.den)} (eD:b.obj s l= .ab (.pm kt tR e M)) {P:Program} (hk:ke P kt .int=true):SL W g w (mapA P kt bb (td M)::(M.map (uY tR e)++dJ (a8 E 0 (b.heap s)++F) l)):=by
 have H:=S.pick hE;rw [eD] at H;have H1:SL W g w (pmA kt tR e M (ptr bb 0)::dJ (a8 E 0 (b.heap s)++F) l):=H.cv λ_ ⟨k1,k2,ap,q,⟨v,h1,h2⟩,h3⟩=>⟨k1,k2,ap,q,by
  rw [hE] at h1;obtain rfl:=aj h1;exact h2,h3⟩
 obtain ⟨⟨mb,P'⟩,H2⟩:=SL.CV H1;obtain ⟨⟨hv,hu⟩,H3⟩:=SL.pure H2;have hbb:bb=mb:=by grind
 have hP':ke P' kt .int=true:=by grind [ke]
 exact H3.cv λ_ ⟨k1,k2,ap,q,h1,h2⟩=>⟨k1,k2,ap,q,by grind [w9, xf],h2⟩
theorem aam {α:Type} {M:List (Int×Nat×α)} {r:Int}:(∃ (i:Nat) (bb:Nat) (x:α),M[i]?=some (r,bb,x)/\iS (td M) r=some (ptr bb 0))\/((∀ p∈M,p.1≠r)/\iS (td M) r=none):=by
 cases hg:iS (td M) r with
 | none=>
  right;exact ⟨λp hp e=>(oa.1 hg) (p.1,ptr p.2.1 0) (bp.2 ⟨p,hp,rfl⟩) e,rfl⟩
 | some v=>
  obtain ⟨p,hp,hq⟩:=bp.1 (oR hg)
  grind [List.getElem?_of_mem]
theorem Ph (S:df n W F b E g w s a) {t:TypeId} {x y:Operand} {l:Nat} {ky:Cl} {kt tR:TypeId} {e:Ty} {M:List (Int×Nat×e.den)} {K:SV->Ov->Prop} (ho:o.op= .lookup t x y true) (rx:ck E g (.m l) (a.eval x)) (ry:ck E g ky (a.eval y)) (eD:b.obj s l= .ab (.pm kt tR e M)) (h:Jf X s t l kt tR e M ky K):
  ∃ v w',(execOp a.eval o).run X.P w= .ok (.value v) w'/\Out n W F b E g a K v w':=by
 unfold Jf at h;split at h
 .rename_i k et q ht;obtain ⟨bb,hE,hx⟩:=rx;obtain ⟨hy,hq⟩:=ry;have hQ:=dc h;obtain ⟨hc,h1,h2⟩:=hQ;simp only [ao] at hc;obtain ⟨c1,c2,c3⟩:=hc;obtain rfl:=ai c1;have H:=ah3 S hE eD c2;have KT:=xe (lG c2);have hl:=(SL.aeJ H).look true KT ht (PZ c3) q (oO.1 hq);rcases aam (M:=M) (r:=q) with ⟨i,pb,xx,hi,hg⟩| ⟨kA,hg⟩
  .rw [hg] at hl;have Al:(Instr.lookup t (.map (some bb)) (.int .i64 q) true).run X.P w= .ok (.tuple #[ptr pb 0,.bool true]) w:=hl;have H5:=SL.Ss (f:=uY tR e) hi H;obtain ⟨us,hrel,H6⟩:∃ us,e.rep.rel g us xx/\SL W g w (pc pb us.toArray tR::mapA X.P k bb (td M)::(dJ (M.map (uY tR e)) i++dJ (a8 E 0 (b.heap s)++F) l)):=by
    obtain ⟨k1,be,se,ow,k2,k3,ap,eq,⟨us,s1,s2⟩,s3⟩:=H5;exact ⟨us,s1,k1,be,se,ow,k2,k3,ap,eq,s2,s3⟩
   obtain ⟨p1,p2⟩:=ft (E++ [ptr pb 0]) g e hrel;have hn:(E++ [ptr pb 0])[s.n]?=some (ptr pb 0):=dX S _;have wk:(E++ [ptr pb 0])[l]?=some (ptr bb 0):=bu.app E _ _ _ hE;have S1:df n W F b (E++ [ptr pb 0]) g w ((s.dR l (.pL (.pm k tR e M i q pb) s.n)).new (.cells tR (e.cells xx))) a:=by
    refine S.split hE (bt.refl g) ?_;have H7:SL W g w ((HK.pm k tR e M i q pb).atom (ptr bb 0) (ptr pb 0)::pc pb us.toArray tR::dJ (a8 E 0 (b.heap s)++F) l):=by
     refine SL.zU (bb,X.P) (SL.pr ⟨rfl,lG c2,⟨xx,hi⟩,rfl⟩ ?_);refine H6.cv λh0 s0=>?_;obtain ⟨k1,k2,ap,e9,s1,s2⟩:=s0.swap;refine ⟨k1,k2,ap,e9,s1,?_⟩;simp_all [bd.toEnd]
    exact H7.cv λh0 ⟨k1,k2,ap,e9,s1,k3,k4,ap2,e2,s2,s3⟩=>⟨k1,k2,ap,e9,⟨_,_,wk,hn,s1⟩,k3,k4,ap2,e2,⟨pb,us,hn,p1,s2⟩,s3⟩
   exact ⟨_,w,xF ho hx hy Al,_,g,_,.cC [.c (.p s.n 0),.c (.k (.bool true))],bu.app E _,bt.refl g,S1,⟨_,⟨_,_,rfl,(show ck (E++ [ptr pb 0]) g (.p s.n 0) _ from ⟨pb,hn,rfl⟩),_,_,rfl,(show ck (E++ [ptr pb 0]) g (.k (.bool true)) _ from ⟨rfl,rfl⟩),rfl⟩,rfl⟩,h2 i pb xx hi p2⟩
  .rw [hg] at hl;have Al:(Instr.lookup t (.map (some bb)) (.int .i64 q) true).run X.P w= .ok (.tuple #[.pointer none,.bool false]) w:=hl;exact ⟨_,w,xF ho hx hy Al,E,g,s,.cC [.c (.k (.pointer none)),.c (.k (.bool false))],bu.refl E,bt.refl g,S,⟨_,⟨_,_,rfl,(show ck E g (.k (.pointer none)) _ from ⟨rfl,rfl⟩),_,_,rfl,(show ck E g (.k (.bool false)) _ from ⟨rfl,rfl⟩),rfl⟩,rfl⟩,h1 kA⟩
 .cases h
theorem Vo (S:df n W F b E g w s a) {t:TypeId} {x y z:Operand} {l:Nat} {ky:Cl} {u:S1} {kt tR:TypeId} {e:Ty} {M:List (Int×Nat×e.den)} {K:Ov->Prop} (amZ:∀ mv kv vv w',a.eval x=mv->a.eval y=kv->a.eval z=vv->(Instr.mapUpdate t mv kv vv).run X.P w= .ok () w'->(execOp a.eval o).run X.P w= .ok .skip w') (rx:ck E g (.m l) (a.eval x)) (ry:ck E g ky (a.eval y)) (rz:gr E g u (a.eval z)) (eD:b.obj s l= .ab (.pm kt tR e M)) (h:PL X b s t l kt tR e M ky u K):
  ∃ w',(execOp a.eval o).run X.P w= .ok .skip w'/\∃ g' s',bt g g'/\df n W F b E g' w' s' a/\K s':=by
 unfold PL at h;split at h
 .rename_i k et q nn ht;obtain ⟨bb,hE,hx⟩:=rx;obtain ⟨hy,hq⟩:=ry;obtain ⟨pb,hEn,hz⟩:=(show ck E g (.p nn 0) (a.eval z) from rz);split at h
  .have hQ:=dc h;obtain ⟨hc,kA,hlen,h⟩:=hQ;simp only [ao,cY] at hc;obtain ⟨c1,c2,c3,c4⟩:=hc;obtain rfl:=ai c1;have H:=ah3 S hE eD c2;have KT:=xe (lG c2);obtain ⟨w',jt,H1⟩:=H.P5 KT ht (by unfold td;rw [bT];exact hlen) q (oO.1 hq) (ptr pb 0);have Z3:(Instr.mapUpdate t (.map (some bb)) (.int .i64 q) (ptr pb 0)).run X.P w= .ok () w':=jt;have aqd:pf (td M) q=td M:=by
    refine lr.2 λp hp=>?_;obtain ⟨p0,Tw,rfl⟩:=bp.1 hp
    grind
   have e3:qY (td M) q (ptr pb 0)=td ((q,pb,e.NZ)::M):=by
    show (q,ptr pb 0)::pf (td M) q=_;rw [aqd];rfl
   rw [e3] at H1;refine ⟨w',amZ _ _ _ _ hx hy hz Z3,g,_,bt.refl g,S.back hE (.pL (.pm k tR e ((q,pb,e.NZ)::M) 0 q pb) nn) (bt.refl g) ?_,h pb⟩;have H2:SL W g w' ((HK.pm k tR e ((q,pb,e.NZ)::M) 0 q pb).atom (ptr bb 0) (ptr pb 0)::dJ (a8 E 0 (b.heap s)++F) l):=by
    refine SL.zU (bb,X.P) (SL.pr ⟨rfl,lG c2,⟨_,rfl⟩,rfl⟩ ?_);exact H1
   exact H2.cv λh0 ⟨k1,k2,ap,e9,s1,s2⟩=>⟨k1,k2,ap,e9,⟨_,_,hE,hEn,s1⟩,s2⟩
  .cases h
 .cases h
theorem Wn (S:df n W F b E g w s a) (l:Nat):df n W F b E g w (QL b s l) a:=by
 unfold QL;split
 .rename_i k q eD;split
  .exact S
  .rename_i ja;have ja:q≠l:=λe=>by subst e;simp at ja
   split
   .rename_i o' lK;have hl:l< s.n:=by
     rcases eT l s.n with h| h;exact h;rw [S.top l h] at eD;cases eD
    have hq:q< s.n:=by
     rcases eT q s.n with h| h;exact h
     .rw [S.top q h] at lK;unfold abz at lK;split at lK<;>first| (cases lK)| (rename_i heq;cases heq)
    obtain ⟨u,hE⟩:∃ u,E[l]?=some u:=⟨E[l]'(by rw [S.len];exact hl),aq _⟩;obtain ⟨v,hEq⟩:∃ v,E[q]?=some v:=⟨E[q]'(by rw [S.len];exact hq),aq _⟩;refine S.join hE hEq ja (bt.refl g) λR HR=>?_;rw [eD] at HR;unfold abz at lK;split at lK
    .rename_i kt tI M oo key t' e' xs Ql;split at lK
     .rename_i ht;obtain rfl:=ai ht;split at lK
      .rename_i ys Ny;obtain ⟨qe,e1⟩:=eB Ny;subst qe;obtain rfl:=aj lK;rw [Ql] at HR;have H2:SL W g w (HK.atom (.ch kt t' M oo key none) u v::pD (.int .i64) t' v ys::R):=HR.cv λh0 ⟨h1,h2,ap,e,⟨v1,vn,k1,k2,k3⟩,h3,h4,ap2,e2,⟨vz,k4,k5⟩,s3⟩=>⟨h1,h2,ap,e,by
        rw [hE] at k1;rw [hEq] at k2;obtain rfl:=aj k1;obtain rfl:=aj k2;exact k3,h3,h4,ap2,e2,by
        rw [hEq] at k4;obtain rfl:=aj k4;rw [e1];exact k5,s3⟩
       obtain ⟨⟨mb,P,val⟩,H3⟩:=SL.CV H2;obtain ⟨⟨hv,hk,Qk,hnd⟩,H4⟩:=SL.pure H3;subst hv;have H5:SL W g w (mapA P kt mb (vT (Un M oo key ys))::((Un M oo key ys).map (Pc t')++R)):=by
        cases oo with
        | none=>
         refine H4.cv λh0 ⟨k1,k2,ap,q,s1,s2⟩=>⟨k1,k2,ap,q,s1,?_⟩;obtain ⟨k3,k4,ap2,e2,_,s4⟩:=bd.po s2;rw [e2];exact bd.wider ap2 s4
        | some p=>
         obtain ⟨i,u2⟩:=p;obtain ⟨⟨xs0,hi⟩,he⟩:=Qk;obtain rfl:=he rfl;have H6:SL W g w (Pc t' (key,u2,ys)::mapA P kt mb (vT M)::(dJ (M.map (Pc t')) i++R)):=H4.cv λh0 ⟨k1,k2,ap,q,s1,s2⟩=>by
          obtain ⟨k3,k4,ap2,e2,s3,s4⟩:=bd.po s2;exact bd.swap ⟨k1,k2,ap,q,s1,k3,k4,ap2,e2,s3,s4⟩
         have H7:=SL.amF (f:=Pc t') hi H6;have e5:vT (M.set i (key,u2,ys))=vT M:=by
          unfold vT;rw [List.map_set];refine wI ?_;rw [dj,hi];rfl
         show SL W g w (mapA P kt mb (vT (M.set i (key,u2,ys)))::_);rw [e5];exact H7
       have HD:SL W g w (chA kt t' (Un M oo key ys) (ptr mb 0)::R):=SL.zU (mb,P) (SL.pr ⟨rfl,hk⟩ H5);exact HD.cv λh0 ⟨h1,h2,ap,e,s1,s2⟩=>⟨h1,h2,ap,e,⟨_,hE,s1⟩,s2⟩
      .cases lK
     .cases lK
    .rename_i kt tR e M i key pb t' cs Ql;split at lK
     .rename_i ht;obtain rfl:=ai ht;split at lK
      .rename_i x hx;obtain rfl:=aj lK;rw [Ql] at HR;have H2:SL W g w (HK.atom (.pm kt t' e M i key pb) u v::cF E q (.cells t' cs)::R):=HR.cv λh0 ⟨h1,h2,ap,e9,⟨v1,vn,k1,k2,k3⟩,s3⟩=>⟨h1,h2,ap,e9,by
        rw [hE] at k1;rw [hEq] at k2;obtain rfl:=aj k1;obtain rfl:=aj k2;exact k3,s3⟩
       obtain ⟨⟨mb,P⟩,H3⟩:=SL.CV H2;obtain ⟨⟨hv,hk,⟨y,hi⟩,hvn⟩,H4⟩:=SL.pure H3;subst hv hvn;have H6:SL W g w (uY t' e (key,pb,x)::mapA P kt mb (td M)::(dJ (M.map (uY t' e)) i++R)):=H4.cv λh0 ⟨k1,k2,ap,q9,s1,s2⟩=>by
        obtain ⟨k3,k4,ap2,e2,⟨b9,us,g1,g2,g3⟩,s4⟩:=bd.po s2;refine bd.swap ⟨k1,k2,ap,q9,s1,k3,k4,ap2,e2,?_,s4⟩;rw [hEq] at g1;have hb9:b9=pb:=by
         have:=aj g1;simpa [ptr] using this.symm
        subst hb9;obtain ⟨u1,u2,e5,h5,h6⟩:=of_cells e hx g2;obtain rfl:u2= []:=h6;rw [bf] at e5;subst e5;exact ⟨us,h5,g3⟩
       have H7:=SL.amF (f:=uY t' e) hi H6;have e5:td (M.set i (key,pb,x))=td M:=by
        unfold td;rw [List.map_set];refine wI ?_;rw [dj,hi];rfl
       have HD:SL W g w (pmA kt t' e (M.set i (key,pb,x)) (ptr mb 0)::R):=SL.zU (mb,P) (SL.pr ⟨rfl,hk⟩ (by rw [e5];exact H7));exact HD.cv λh0 ⟨h1,h2,ap,e,s1,s2⟩=>⟨h1,h2,ap,e,⟨_,hE,s1⟩,s2⟩
      .cases lK
     .cases lK
    .cases lK
   .exact S
 .exact S
theorem Wo (S:df n W F b E g w s a) (l:Nat):∃ g',bt g g'/\df n W F b E g' w (QN b s l) a:=by
 unfold QN;split
 .rename_i t e xs i off q eD;split
  .exact ⟨g,bt.refl g,S⟩
  .rename_i ja;have ja:q≠l:=λe=>by subst e;simp at ja
   split
   .rename_i t' e' ys Ql;split
    .rename_i x' hof;obtain ⟨u,hE⟩:=Jk S (l:=l) (by rw [eD];exact λe=>by cases e);obtain ⟨v,hEq,_⟩:=acT S hE eD;letI:=e'.rep;obtain ⟨g1,m1,H1,hi⟩:=SL.qF (α:=e'.den) (j5 S hEq Ql);have S1:df n W F b E g1 w (s.dR q (.held t' e' ys)) a:=S.back hEq _ m1 (H1.cv λk s2=>⟨λ_=>none,k,λ_=>.inl rfl,rfl,(show (cF E q (.held t' e' ys)).sat g1 _ from ⟨v,hEq,hi⟩),s2⟩);have apH:b.obj (s.dR q (.held t' e' ys)) l= .pL (.sf t e xs i off) q:=by rw [jr,if_neg ja];exact eD
     obtain ⟨v2,hE2,H2⟩:=acT S1 hE apH;rw [hEq] at hE2;obtain rfl:=aj hE2;refine ⟨g1,m1,S1.back hE _ (bt.refl g1) (H2.cv λk ⟨k1,k2,ap,e1,⟨cs,s1,⟨q1,q2,q3,q4,q5⟩,_,s3⟩,s4⟩=>⟨k1,k2,ap,e1,⟨u,hE,cs,s3 g1 (bt.refl g1) E (.d e' ys) hi x' hof,?_⟩,s4⟩)⟩;rw [jc,Ty.gw e];exact s1
    .exact ⟨g,bt.refl g,S⟩
   .exact ⟨g,bt.refl g,S⟩
 .exact ⟨g,bt.refl g,S⟩
theorem Dx:∀ (ls:List Nat) {s:Ov} {g:World},df n W F b E g w s a->∃ g',bt g g'/\df n W F b E g' w (JX b ls s) a
 | [],_,g,S=>⟨g,bt.refl g,S⟩
 | l::r,_,_,S=>by
  obtain ⟨g1,m1,S1⟩:=Wo S l;obtain ⟨g2,m2,S2⟩:=Dx r S1;exact ⟨g2,m1.trans m2,S2⟩
theorem Hk (c:Bool) (S:df n W F b E g w s a):∃ g',bt g g'/\df n W F b E g' w (aaF c b s) a:=by
 cases c;exact ⟨g,bt.refl g,S⟩;exact Dx _ S
theorem Hj:∀ (ls:List Nat) {s:Ov},df n W F b E g w s a->df n W F b E g w (QM b ls s) a
 | [],_,S=>S
 | l::r,_,S=>Hj r (Wn S l)
theorem Hi (c:Bool) (S:df n W F b E g w s a):df n W F b E g w (Dv c b s) a:=by
 cases c;exact S;exact Hj _ S
end
def jv (W:cV) (P:Program) (L:List (Nat×Ct)):Prop:=∀ p∈L,∀ args H Q,p.2 args H Q->WpW W P p.1 args H Q
def jJ (I:cV->Prop) (P:Program) (L:List (Nat×Ct)):Prop:=∀ p∈L,∀ args H Q,p.2 args H Q->Wp I P p.1 args H Q
theorem jJ.nil (I:cV->Prop) (P:Program):jJ I P []:=λ_ h=>by cases h
theorem jJ.at {I:cV->Prop} {P:Program} {L:List (Nat×Ct)} (h:jJ I P L) {W:cV} (hW:I W):jv W P L:=λp hp args H Q hc=>h p hp args H Q hc W hW
theorem jJ.cons {I:cV->Prop} {P:Program} {L:List (Nat×Ct)} {f:Nat} {c:Ct} (h:∀ args H Q,c args H Q->Wp I P f args H Q) (k:jJ I P L):jJ I P ((f,c)::L):=λp hp=>by
 rcases bm.1 hp with rfl| hp;exact h;exact k p hp
theorem jv.look {W:cV} {P:Program}:∀ {L:List (Nat×Ct)},jv W P L->∀ f args H Q,Ae L f args H Q->WpW W P f args H Q
 | [],_,_,_,_,_,h=>h.elim
 | (k,c)::r,hL,f,args,H,Q,h=>by
  unfold Ae at h;by_cases e:k=f
  .subst e;have hb:Nat.beq k k=true:=by simp
   rw [hb] at h;exact hL _ (aN ..) _ _ _ h
  .rw [jk e] at h;exact jv.look (λp hp=>hL p (aI _ hp)) f args H Q h
section
variable {X:Vx} {n:Nat} {W:cV} {F:List Atom} {b:Bs} {E:Env} {g w:World} {s:Ov} {a:Act} {o:Oper} {K:SV->Ov->Prop}
theorem fE {x:Operand} {k:SV->Prop} (h:qA b s x k):∃ v,fe b s x=some v/\k v:=by
 grind [qA]
theorem dM {x:Operand} {k:Cl->Prop} (h:nU b s x k):∃ c,fe b s x=some (.v (.c c))/\k c:=by
 grind [nU]
theorem Out.here (S:df n W F b E g w s a) {v:Value} {sv:SV} (r:dd E g sv v) (h:K sv s):Out n W F b E g a K v w:=⟨E,g,s,sv,bu.refl E,bt.refl g,S,r,h⟩
theorem k7.val {v:Value} {w':World} {R:Value->World->Prop} {P:Program} (h:(execOp a.eval o).run P w= .ok (.value v) w') (k:R v w'):k7 P o a w R:=.inl ⟨v,w',h,k⟩
theorem k7.er (S:df n W F b E g w s a) (h:ER X.P o a w E g λr=>K r s):k7 X.P o a w (Out n W F b E g a K):=by
 obtain ⟨v,sv,h1,h2,h3⟩:=h
 grind [k7.val, Out.here]
theorem k7.ex (h:∃ v w',(execOp a.eval o).run X.P w= .ok (.value v) w'/\Out n W F b E g a K v w'):k7 X.P o a w (Out n W F b E g a K):=.inl h
theorem tH {q:Bool} {p r:Prop} (h:br q p r):(q=true/\p)\/(q=false/\r):=by
 cases q;exact .inr ⟨rfl,h⟩;exact .inl ⟨rfl,h⟩
theorem ub (S:df n W F b E g w s a) {q:Option Operand} {k:Option SV->Prop} (h:wU b s q k):∃ l,k l/\∀ i,intOf l=some i->rE a q i:=by
 unfold wU at h;split at h;exact ⟨none,h,λi hi=>.inl ⟨rfl,(aj hi).symm⟩⟩
 .rename_i y;obtain ⟨v,hv,h⟩:=fE h;refine ⟨some v,h,λi hi=>?_⟩;unfold intOf at hi;split at hi
  .rename_i heq;cases heq
  .rename_i m heq;cases heq;exact .inr ⟨y,m,rfl,(aj hi).symm,(il (S.fe hv)).1⟩
  .cases hi
theorem Hl:∀ {l:List SV} {cs:List Cl} {us:List Value},JZ l=some cs->bA E g l us->bz E g cs us
 | [],cs,us,h,r=>by
  obtain rfl: []=cs:=aj h;exact r
 | v::r,cs,us,h,⟨u,q,e,h1,h2⟩=>by
  subst e;unfold JZ at h;split at h
  .grind
  .rename_i c r' heq;cases heq;split at h
   .rename_i l hl;obtain rfl:c::l=cs:=aj h;exact bz.cons h1 (Hl hl h2)
   grind
  grind
theorem tZ {c:SV} {us:List Value} (h:bA E g [c] us):∃ u,us= [u]/\dd E g c u:=by
 obtain ⟨u,r,e,h1,h2⟩:=h;exact ⟨u,by rw [e,show r= [] from h2],h1⟩
theorem nW {c d:SV} {us:List Value} (h:bA E g [c,d] us):∃ u v,us= [u,v]/\dd E g c u/\dd E g d v:=by
 obtain ⟨u,r,e,h1,h2⟩:=h
 grind [tZ]
theorem an2 {α β:Type} {f:α->β} {l:Array α} {u:β} (h:l.toList.map f= [u]):∃ x,l= #[x]/\f x=u:=by
 obtain ⟨l⟩:=l;simp_all
theorem af4 {α β:Type} {f:α->β} {l:Array α} {u v:β} (h:l.toList.map f= [u,v]):∃ x y,l= #[x,y]/\f x=u/\f y=v:=by
 obtain ⟨l⟩:=l
 match l,h with
 | [x,y],h=>
  grind
theorem WX {α:Type} {l:Array α} {t:List α} (h:l.toList=t):l=t.toArray:=by
 grind
theorem LX (S:df n W F b E g w s a) {c:Call} {bi:Builtin} {args:List SV} (ho:o.op= .call c) (hc:c.callee= .builtin bi) (ha:AG b s c.args.toList=some args) (h:pP X b s bi args c.argTypes.toList K):k7 X.P o a w (Out n W F b E g a K):=by
 have hv:=uc S ha;obtain ⟨callee,cargs,ctys⟩:=c;subst hc;unfold pP at h;split at h
 .split at h
  .rename_i x t Z0;obtain ⟨u,e,hu⟩:=tZ hv;obtain ⟨ox,rfl,rfl⟩:=an2 e;obtain rfl:=WX Z0;exact k7.er S (Mp S ho hu h)
  grind
 .split at h
  .rename_i x y t t2 Z0;obtain ⟨u,v,e,hu,hv2⟩:=nW hv;obtain ⟨ox,oy,rfl,rfl,rfl⟩:=af4 e;obtain rfl:=WX Z0;exact k7.ex (Mz S ho hu hv2 h)
  grind
 .split at h
  .rename_i x y t t2 Z0;obtain ⟨u,v,e,hu,hv2⟩:=nW hv;obtain ⟨ox,oy,rfl,rfl,rfl⟩:=af4 e;obtain rfl:=WX Z0;exact k7.ex (Vr S ho hu hv2 h)
  grind
 .split at h
  .rename_i x y t t2 Z0;obtain ⟨u,v,e,hu,hv2⟩:=nW hv;obtain ⟨ox,oy,rfl,rfl,rfl⟩:=af4 e;obtain rfl:=WX Z0
   grind [k7.er, SC]
  grind
 .split at h
  .rename_i x y t t2 Z0;obtain ⟨u,v,e,hu,hv2⟩:=nW hv;obtain ⟨ox,oy,rfl,rfl,rfl⟩:=af4 e;obtain rfl:=WX Z0
   grind [k7.er, SC]
  grind
 grind
theorem GX:∀ {args:List SV} {us:List Value} {s:Ov} {g:World} {k:List SV->Ov->Prop},df n W F b E g w s a->bA E g args us->vV b args s k->∃ g' s' args',bt g g'/\df n W F b E g' w s' a/\bA E g' args' us/\k args' s'
 | [],us,s,g,k,S,hv,h=>⟨g,s,[],bt.refl g,S,hv,h⟩
 | v::r,us,s,g,k,S,⟨u,q,e,h1,h2⟩,h=>by
  subst e;have more:∀ {v':SV} {g1:World} {s1:Ov},bt g g1->df n W F b E g1 w s1 a->dd E g1 v' u->(vV b r s1 λr' s'=>k (v'::r') s')->∃ g' s' args',bt g g'/\df n W F b E g' w s' a/\bA E g' args' (u::q)/\k args' s':=λ{v' g1 s1} m1 S1 hu h=>by
   have h2':bA E g1 r q:=by
    have key:∀ {l:List SV} {us:List Value},bA E g l us->bA E g1 l us:=by
     intro l
     induction l with
     | nil=>intro us h;exact h
     | cons c l ih=>
      rintro us ⟨u,r,e,h1,h2⟩;exact ⟨u,r,e,h1.mono (bu.refl E) m1,ih h2⟩
    exact key h2
   obtain ⟨g2,s2,r',m2,S2,hr,hk⟩:=GX S1 h2' h;exact ⟨g2,s2,v'::r',m1.trans m2,S2,⟨u,q,rfl,hu.mono (bu.refl E) m2,hr⟩,hk⟩
  unfold vV at h;split at h
  .rename_i c;have hc:bz E g [c] [u]:=⟨u,[],rfl,h1,rfl⟩;obtain ⟨g1,s1,cs,m1,S1,yZ,h⟩:=gG S hc h;split at h
   .rename_i c';obtain ⟨u',q',e',h3,h4⟩:=yZ;obtain rfl:u=u':=(List.cons.inj e').1;exact more m1 S1 (v':=.v (.c c')) h3 h
   .cases h
  .obtain ⟨us,hu,rfl⟩:=h1;obtain ⟨g1,s1,cs,m1,S1,yZ,h⟩:=gG S hu h;exact more m1 S1 (v':=.v (.agg cs)) ⟨us,yZ,rfl⟩ h
  .exact more (bt.refl g) S h1 h
theorem Yx (kf:jv W X.P X.ct) (S:df n W F b E g w s a) {c:Call} (ho:o.op= .call c) (h:BT X b s c K):k7 X.P o a w (Out n W F b E g a K):=by
 unfold BT at h;split at h;cases h
 .rename_i args ha;split at h
  .rename_i fo hc;obtain ⟨q,hq,h⟩:=dM h;split at h
   .rename_i f caps;obtain ⟨hk,h⟩:=dc h;obtain ⟨us,h1,h2⟩:=S.fe hq;refine .inr (.inr ⟨f,_,YV ho hc h2 hk,?_⟩);have hv:=bA.app (uc S ha) (Cm h1);have e:(c.args.map a.eval++us.toArray)=(List.map a.eval c.args.toList++us).toArray:=by simp
    rw [e];split at h
    .obtain ⟨g1,s1,args',m1,S1,hv1,h⟩:=GX S hv h;have:=tX (P:=X.P) kf.look S1 hv1 h;exact this.mono λv w' ⟨E',g',s',sv,q1,q2,q3⟩=>⟨E',g',s',sv,q1,m1.trans q2,q3⟩
    .split at h
     .exact Gl (P:=X.P) kf.look S hv h
     .exact tX (P:=X.P) kf.look S hv h
   .cases h
  .grind [LX]
  .rename_i ro name hc;obtain ⟨q,hq,h⟩:=dM h;split at h
   .rename_i t r;split at h
    .rename_i f hf;obtain ⟨hk,h⟩:=dc h;obtain ⟨u,h1,h2⟩:=S.fe hq;refine .inr (.inr ⟨f,_,Pk ho hc h2 hf hk,?_⟩);have hv:bA E g (.v (.c r)::args) (u::List.map a.eval c.args.toList):=⟨u,_,rfl,h1,uc S ha⟩;have e:(#[u]++c.args.map a.eval)=(u::List.map a.eval c.args.toList).toArray:=by simp
     rw [e];split at h;exact Gl (P:=X.P) kf.look S hv h;exact tX (P:=X.P) kf.look S hv h
    .cases h
   .cases h
theorem VE {g':World} {u:S1} {cs:List Cl} {v:Value} (r:gr E g u v) (h:bz E g' cs v.cells.toList):gr E g' (Y1 u cs) v:=by
 cases u with
 | c x=>
  have hr:ck E g x v:=r;rw [nY hr.one] at h
  match cs,h with
  | [d],⟨u',q,e1,h1,h2⟩=>
   obtain ⟨rfl,_⟩:=List.cons.inj e1;exact h1
  | [],h=>trivial
  | _::_::_,⟨_,_,e1,_,_,_,e2,_⟩=>
   grind
 | agg l=>
  obtain ⟨us,h1,rfl⟩:=r;have hc:(Value.agg us.toArray).cells.toList=us:=by rfl
  have:Y1 (.agg l) cs= .agg cs:=rfl;exact ⟨us,h,rfl⟩
theorem SS {c:Cl} {l:Nat} {kt tR:TypeId} {e:Ty} {M:List (Int×Nat×e.den)} (h:aeu b s c=some (l,⟨kt,tR,e,M⟩)):c= .m l/\b.obj s l= .ab (.pm kt tR e M):=by
 unfold aeu at h
 grind
theorem Yv (kf:jv W X.P X.ct) (S:df n W F b E g w s a) (h:LW X b s o K):k7 X.P o a w (Out n W F b E g a K):=by
 unfold LW at h;split at h
 .rename_i x ho;obtain ⟨v,hv,h⟩:=fE h;exact k7.val (by simp [execOp,ho]) (Out.here S (S.fe hv) h)
 .rename_i x ho;obtain ⟨v,hv,h⟩:=fE h;exact k7.val (by simp [execOp,ho]) (Out.here S (S.fe hv) h)
 .rename_i c x y ho;obtain ⟨q,hq,h⟩:=dM h;obtain ⟨v,hv,h⟩:=fE h;obtain ⟨u,hu,h⟩:=fE h;split at h
  .rename_i z;obtain ⟨hz,_⟩:=S.fe hq;rcases tH h with ⟨e,h⟩| ⟨e,h⟩<;>subst e
   .exact k7.val (v:=a.eval x) (by simp [execOp,ho,hz,asBool]) (Out.here S (S.fe hv) h)
   .exact k7.val (v:=a.eval y) (by simp [execOp,ho,hz,asBool]) (Out.here S (S.fe hu) h)
  .cases h
 .rename_i op t x y yt ho;obtain ⟨v,hv,h⟩:=fE h;obtain ⟨u,hu,h⟩:=fE h;exact k7.er S (ER.of (m:=(do eqGuard op t x y (a.eval x) (a.eval y);binOp op t (a.eval x) (a.eval y))) (by simp [execOp,ho]) (Mv S (S.fe hv) (S.fe hu) h))
 .rename_i op t x ho;obtain ⟨v,hv,h⟩:=fE h;exact k7.er S (ER.of (m:=Op.unary op (a.eval x)) (by simp [execOp,ho]) (SB (S.fe hv) h))
 .rename_i x i ho;obtain ⟨v,hv,h⟩:=fE h;split at h
  .split at h
   .rename_i l c hc;obtain ⟨us,h1,h2⟩:=S.fe hv;obtain ⟨u,h3,h4⟩:=h1.get hc;exact k7.val (v:=u) (by simp [execOp,ho,h2,Instr.extract,h3]) (Out.here S (sv:=.v c) h4 h)
   .cases h
  .cases h
 .rename_i t x j ho;obtain ⟨v,hv,h⟩:=fE h;split at h
  .split at h
   .rename_i f hf;split at h
    .rename_i r hr;exact k7.er S (Gj ho (S.fe hv) hf hr h)
    .cases h
   .cases h
  .cases h
 .rename_i t x ho;obtain ⟨c,hc,h⟩:=dM h;exact k7.er S (ER.of (m:=Instr.loadAt t (a.eval x)) (by simp [execOp,ho]) (xZ S (S.fe hc) h))
 .rename_i t x y ho;obtain ⟨c,hc,h⟩:=dM h;obtain ⟨u,hu,h⟩:=fE h;split at h
  .rename_i uu;have xL:BY X.P b s t c uu (λs'=>K .tV s')->k7 X.P o a w (Out n W F b E g a K):=λh=>by
    obtain ⟨w',s',h1,h2,h3⟩:=Cf S ho (S.fe hc) (S.fe hu) h;exact .inr (.inl ⟨w',h1,E,g,s',.tV,bu.refl E,bt.refl g,h2,jq,h3⟩)
   split at h
   .split at h
    .obtain ⟨w',s',h1,h2,h3⟩:=Mn S ho (S.fe hc) (S.fe hu) h;exact .inr (.inl ⟨w',h1,E,g,s',.tV,bu.refl E,bt.refl g,h2,jq,h3⟩)
    obtain ⟨g1,s1,cs,m1,S2,yZ,h9⟩:=gG S (gr.cells (S.fe hu)) h;obtain ⟨w',s',h1,h2,h3⟩:=Cf S2 ho (ck.mono (bu.refl E) m1 (S.fe hc)) (VE (S.fe hu) yZ) h9;exact .inr (.inl ⟨w',h1,E,g1,s',.tV,bu.refl E,m1,h2,jq,h3⟩)
   .exact xL h
  .obtain ⟨w',s',h1,h2,h3⟩:=Io S ho (S.fe hc) (S.fe hu) h;exact .inr (.inl ⟨w',h1,E,g,s',.tV,bu.refl E,bt.refl g,h2,jq,h3⟩)
  .cases h
 .rename_i t ho;split at h
  .rename_i z hz;split at h
   .rename_i ha;obtain ⟨hz2,h⟩:=dc h;exact k7.ex (MC S ho hz ha hz2 h)
   .exact k7.ex (Vy S ho hz h)
  .cases h
 .rename_i t x ho;obtain ⟨v,hv,h⟩:=fE h;split at h
  .exact k7.ex (ael S ho (S.fe hv) h)
  .split at h
   .rename_i ha;have h9:=dc h;clear h;obtain ⟨hk,hl,h⟩:=h9;have hk:=IntKind.eq_of_beq hk;subst hk;exact k7.ex (Vw S ho (S.fe hv) ha hl h)
   .cases h
  .cases h
 .rename_i x ho;obtain ⟨c,hc,h⟩:=dM h;have r:=S.fe hc;have key:∀ q:Addr,a.eval x= .pointer (some q)->(execOp a.eval o).run X.P w= .ok (.value (a.eval x)) w:=λq hq=>by simp [execOp,ho,hq]
  split at h
  .obtain ⟨bb,h1,h2⟩:=r;exact k7.val (key _ h2) (Out.here S (S.fe hc) h)
  .obtain ⟨h0,v,h1,h2⟩:=r;obtain ⟨cs,h3,_⟩:=As h1 h0.1 h0.2.1;obtain ⟨q,hq,_⟩:=h3 g (bt.refl g);rw [hq] at h2;exact k7.val (key _ h2) (Out.here S (S.fe hc) h)
  .obtain ⟨v,h1,h2,q,hq⟩:=r;exact k7.val (key _ hq) (Out.here S (S.fe hc) h)
  exact k7.val (key _ r.2.1) (Out.here S (S.fe hc) h);cases h
 .rename_i t x j ho;obtain ⟨c,hc,h⟩:=dM h;split at h
  .rename_i f hf;split at h
   .rename_i ie mN;obtain ⟨hs,h⟩:=dc h;split at h
    .rename_i c' NI;obtain ⟨v,h1,h2⟩:=Gm (w:=w) ho (S.fe hc) hf mN hs NI;exact k7.val h1 (Out.here S (sv:=.c c') h2 h)
    .cases h
   .cases h
  .cases h
 .rename_i t x i ho;obtain ⟨c,hc,h⟩:=dM h;obtain ⟨q,hq,h⟩:=dM h;split at h
  exact k7.er S (su S ho (S.fe hc) (il (S.fe hq)).1 h);cases h
 .rename_i t x i ho;obtain ⟨c,hc,h⟩:=dM h;obtain ⟨q,hq,h⟩:=dM h;split at h
  .obtain ⟨h0,h1,h⟩:=h;exact k7.er S (Gi ho (by assumption) (S.fe hc).1 (S.fe hq).1 h0 h1 h)
  .cases h
 .rename_i t x lo hi ho;obtain ⟨c,hc,h⟩:=dM h;obtain ⟨l,h,hl⟩:=ub S h;obtain ⟨m,h,hm⟩:=ub S h;split at h
  .rename_i i j r8 Ev;exact k7.er S (Cg S ho (S.fe hc) (hl _ r8) (hm _ Ev) h)
  .cases h
 .rename_i t x lo hi y ho;obtain ⟨c,hc,h⟩:=dM h;obtain ⟨l,h,hl⟩:=ub S h;obtain ⟨m,h,hm⟩:=ub S h;obtain ⟨q,hq,h⟩:=dM h;split at h
  .rename_i i j m r8 Ev;exact k7.er S (Mm ho (S.fe hc) (hl _ r8) (hm _ Ev) (il (S.fe hq)).1 S.m h)
  .cases h
 .rename_i t x ho;obtain ⟨c,hc,h⟩:=dM h;exact k7.er S (My ho (S.fe hc) h)
 .rename_i t ps ho;split at h
  .rename_i l hl;exact k7.er S (Ck ho (ua S hl) h)
  .cases h
 .rename_i t m ps ho;split at h
  .rename_i l hl;exact k7.ex (AE S ho (ua S hl) h)
  .cases h
 .rename_i src dst x ho;obtain ⟨v,hv,h⟩:=fE h;exact k7.ex (Vs S ho (S.fe hv) h)
 .rename_i f first captured ho
  obtain ⟨hf,h⟩:=dc h;split at h
  .rename_i l hl;split at h
   .rename_i cs yZ;have r:=Hl yZ (uc S hl);have hf':first= #[]:=Array.isEmpty_iff.1 hf
    refine k7.val (v:=.func (.func f) #[] (captured.toList.map a.eval).toArray) ?_ (Out.here S (sv:=.c (.fn f cs)) ⟨_,r,rfl⟩ h);subst hf';have e:captured.map a.eval=(captured.toList.map a.eval).toArray:=by
     apply Array.ext';simp
    simp [execOp,ho,Instr.makeFunc,e]
   .cases h
  .cases h
 .rename_i t x ho;obtain ⟨c,hc,h⟩:=dM h;exact k7.er S (Pm ho (S.fe hc) h)
 .rename_i x t0 t ho;obtain ⟨c,hc,h⟩:=dM h;exact k7.er S (Mw ho (S.fe hc) h)
 .rename_i x t0 t ho;obtain ⟨c,hc,h⟩:=dM h;exact k7.er S (Mx ho (S.fe hc) h)
 .rename_i t ho;exact k7.ex (Ij S ho h)
 .rename_i t x y c ho;have h':=dM h;clear h;obtain ⟨mx,hx,h'⟩:=h';have h:=fE h';clear h';obtain ⟨ky,hy,h⟩:=h;split at h
  .split at h
   .rename_i l kt tR e M hpm;obtain ⟨rfl,eD⟩:=SS hpm;split at h
    .rename_i hc;subst hc;exact k7.ex (Ph S ho (S.fe hx) (S.fe hy) eD h)
    .cases h
   .exact k7.er S (Mo S ho (S.fe hx) (S.fe hy) h)
  .split at h
   .cases h
   .rename_i hc;have hc:c=false:=by simpa using hc
    subst hc;exact k7.ex (Po S ho (S.fe hx) (S.fe hy) h)
  .cases h
 .rename_i t x y z ho;have h':=dM h;clear h;obtain ⟨mx,hx,h'⟩:=h';have h:=dM h';clear h';obtain ⟨ky,hy,h⟩:=h;have h':=fE h;clear h;obtain ⟨u,hu,h⟩:=h';split at h
  .split at h
   .rename_i l kt tR e M hpm;obtain ⟨rfl,eD⟩:=SS hpm;obtain ⟨w',h1,g',s',h2,h3,h4⟩:=Vo (o:=o) S (λmv kv vv w' e1 e2 e3 hr=>by simp [execOp,ho,e1,e2,e3,hr]) (S.fe hx) (S.fe hy) (S.fe hu) eD h;exact .inr (.inl ⟨w',h1,E,g',s',.tV,bu.refl E,h2,h3,jq,h4⟩)
   .obtain ⟨w',h1,g',s',h2,h3,h4⟩:=zV S ho (S.fe hx) (S.fe hy) (S.fe hu) h;exact .inr (.inl ⟨w',h1,E,g',s',.tV,bu.refl E,h2,h3,jq,h4⟩)
  .cases h
 .rename_i t x ho;obtain ⟨c,hc,h⟩:=dM h;exact k7.ex (Pg S ho (S.fe hc) h)
 .rename_i x ho;obtain ⟨c,hc,h⟩:=dM h;exact k7.ex (Vp S ho (S.fe hc) h)
 .rename_i x ho;obtain ⟨c,hc,h⟩:=dM h;exact k7.ex (Vq S ho (S.fe hc) h)
 .rename_i x ho;obtain ⟨c,hc,h⟩:=dM h;exact k7.er S (Pn S ho (S.fe hc) h)
 .rename_i t x y ho;obtain ⟨c,hc,h⟩:=dM h;obtain ⟨d,hd,h⟩:=dM h;exact k7.ex (Ch S ho (S.fe hc) (S.fe hd) h)
 .rename_i t x y ho;obtain ⟨c,hc,h⟩:=dM h;obtain ⟨d,hd,h⟩:=fE h;split at h
  exact k7.ex (Vv S ho (S.fe hc) (S.fe hd) h);cases h
 .rename_i t x y z ho;obtain ⟨mx,hx,h⟩:=dM h;obtain ⟨ky,hy,h⟩:=dM h;obtain ⟨u,hu,h⟩:=fE h;split at h
  .split at h
   .obtain ⟨w',h1,g',s',h2,h3,h4⟩:=Vu S ho (S.fe hx) (S.fe hy) (S.fe hu) h;exact .inr (.inl ⟨w',h1,E,g',s',.tV,bu.refl E,h2,h3,jq,h4⟩)
   .cases h
  .cases h
 .rename_i t x y z ho;obtain ⟨mx,hx,h⟩:=dM h;obtain ⟨ky,hy,h⟩:=dM h;obtain ⟨u,hu,h⟩:=fE h;split at h
  .obtain ⟨w',h1,g',s',h2,h3,h4⟩:=Mu S ho (S.fe hx) (S.fe hy) (S.fe hu) h;exact .inr (.inl ⟨w',h1,E,g',s',.tV,bu.refl E,h2,h3,jq,h4⟩)
  .cases h
 .rename_i c ho;exact Yx kf S ho h
 .cases h
end
abbrev Ei (ro:Option Nat):Fence:= {fn:=λ_=>True,depth:=none,alive:=false,round:=ro}
theorem QQ {ro:Option Nat} {m:Nat} {P:Program} {f:FuncId} {args:Array Value} {w:World} {R:Ending->World->Prop} (h:Calls P f args w R):CallsIn (Ei ro) m P f args w R:=(callsIn_wide (n:=m)).2 h
theorem wY {ρ:Operand->Value} {o:Oper} {P:Program} {w w':World} {nx:Next} (h:(execOp ρ o).run P w= .ok nx w') (hn:∀ d,nx≠ .defer d):∀ c,o.op≠ .defer c:=λc hc=>by
 unfold execOp at h;rw [hc] at h;simp only [Sem.run_bind] at h;cases hr:(resolve ρ c o.type).run P w with
 | ok d w1=>
  rw [hr] at h;have h:Result.ok (Next.defer d) w1= .ok nx w':=h
  grind
 | halt=>simp_all
theorem Xo {F:Fence} {m:Nat} {P:Program} {ops:Array Oper} {Q:Exit->Act->World->Prop} {o:Oper} {rest:List Oper} {a:Act} {w:World} (hw:Region.wanted o (yielded ops a.tmps)=true) (h:∀ K:Act->World->Prop,(∀ a w,wpListIn F m P ops Q rest a w->K a w)->o.wpIn F m P a w K Q):wpListIn F m P ops Q (o::rest) a w:=by
 grind [wpListIn]
theorem Xn {ro:Option Nat} {m:Nat} {P:Program} {ops:Array Oper} {Q:Exit->Act->World->Prop} {o:Oper} {rest:List Oper} {a:Act} {w:World} (hw:Region.wanted o (yielded ops a.tmps)=false) (h:wpListIn (Ei ro) m P ops Q rest (a.put o.dst undef) w):wpListIn (Ei ro) m P ops Q (o::rest) a w:=by
 grind [wpListIn]
section
variable {X:Vx} {n:Nat} {W:cV} {F:List Atom} {b:Bs} {E:Env} {g w:World} {s:Ov} {a:Act} {o:Oper}
theorem mG {t d:Nat} {v:SV}:b.slot (s.put (some d) v) t=if d=t then some v else b.slot s t:=by
 unfold Bs.slot Ov.put;simp only [gg];by_cases e:d=t
 .simp_all
 grind [jk]
theorem df.told (S:df n W F b E g w s a) {d:Nat} {v:SV} (h:dd E g v (a.tmps.getD d undef)):df n W F b E g w (s.put (some d) v) a:=by
 refine ⟨S.size,S.defers,λt u hu=>?_,S.sat,S.top⟩;rw [mG] at hu;by_cases e:d=t
 .grind
 .rw [if_neg e] at hu;exact S.fr t u hu
theorem df.put (S:df n W F b E g w s a) {d:Option Nat} {v:SV} {u:Value} (hd:(match d with| some d=>gH d n| none=>true)=true) (h:dd E g v u):df n W F b E g w (s.put d v) (a.put d u):=by
 cases d with
 | none=>exact S
 | some d=>
  have hd':d< n:=by simp_all
  refine ⟨by simp [Act.put,S.size],S.defers,λt x hx=>?_,S.sat,S.top⟩;rw [mG] at hx;by_cases e:d=t
  .subst e;rw [if_pos rfl] at hx;obtain rfl:=aj hx;simpa [Act.put,S.size,hd'] using h
  .rw [if_neg e] at hx;have:=S.fr t x hx;simp_all [Act.put]
theorem Xp {ops:Array Oper} {K:Bool->Ov->Prop} (S:df n W F b E g w s a) (h:EM ops b s o K):∃ q s',Region.wanted o (yielded ops a.tmps)=q/\df n W F b E g w s' a/\K q s':=by
 unfold EM at h;split at h
 .grind [Region.wanted]
 .rename_i j wt hg;split at h
  .grind
  .rename_i d hd;split at h
   .rename_i v hv;obtain ⟨hx,_⟩:=S.fr d _ hv;have hw:Region.wanted o (yielded ops a.tmps)=(v==wt):=by
     unfold Region.wanted;rw [hg];simp only;unfold yielded;have:(a.tmps[d]?).getD undef= .bool v:=by simp_all
     grind [undef]
    rcases tH h with ⟨e,h⟩| ⟨e,h⟩<;>subst e;exact ⟨_,_,hw,S.told (by trivial),h⟩;exact ⟨_,_,hw,S.told (by trivial),h⟩
   .rename_i l hv;obtain ⟨us,_,hx⟩:=S.fr d _ hv;have hw:Region.wanted o (yielded ops a.tmps)=false:=by
     unfold Region.wanted;rw [hg];simp only;unfold yielded;have:(a.tmps[d]?).getD undef= .tuple us.toArray:=by simp_all
     grind
    grind
   grind
def Step (n:Nat) (W:cV) (F:List Atom) (b:Bs) (E:Env) (g:World) (K:Ov->Prop) (a':Act) (w':World):Prop:=∃ E' g' s',bu E E'/\bt g g'/\df n W F b E' g' w' s' a'/\K s'
theorem k7.wpIn {P:Program} {R:Value->World->Prop} {K:Act->World->Prop} {Q:Exit->Act->World->Prop} (h:k7 P o a w R) (k:∀ v w',R v w'->K (a.put o.dst v) w') {ro:Option Nat} {m:Nat}:o.wpIn (Ei ro) m P a w K Q:=by
 refine ⟨by grind,?_⟩;rcases h with ⟨v,w',hr,h⟩| ⟨w',hr,h⟩| ⟨f,args,hr,h⟩;rw [Oper.semAt_eq _ _ _ (wY hr λd e=>by cases e),hr];exact k v w' h;rw [Oper.semAt_eq _ _ _ (wY hr λd e=>by cases e),hr];exact k undef w' h
 .rw [Oper.semAt_eq _ _ _ (wY hr λd e=>by cases e),hr];refine ⟨by grind,QQ (Calls.mono h ?_)⟩
  grind
theorem ad1 (kf:jv W X.P X.ct) {ops:Array Oper} {K:Ov->Prop} (S:df n W F b E g w s a) (h:U7 X n ops b s o K):
  (Region.wanted o (yielded ops a.tmps)=true/\k7 X.P o a w λv w'=>Step n W F b E g K (a.put o.dst v) w')\/(Region.wanted o (yielded ops a.tmps)=false/\Step n W F b E g K (a.put o.dst undef) w):=by
 obtain ⟨hd,h⟩:=dc h;obtain ⟨q,s',hq,S',h⟩:=Xp S h;cases q with
 | true=>
  refine .inl ⟨hq,?_⟩;have hr:=Yv kf S' h;have key:∀ v w',Out n W F b E g a (λv s'=>K (s'.put o.dst v)) v w'->Step n W F b E g K (a.put o.dst v) w':=λv w' ⟨E',g',s2,sv,he,hm,S2,r,hk⟩=>⟨E',g',_,he,hm,S2.put hd r,hk⟩;rcases hr with ⟨v,w',hr,h⟩| ⟨w',hr,h⟩| ⟨f,args,hr,h⟩;exact .inl ⟨v,w',hr,key v w' h⟩;exact .inr (.inl ⟨w',hr,key undef w' h⟩);exact .inr (.inr ⟨f,args,hr,h.mono key⟩)
 | false=>exact .inr ⟨hq,E,g,_,bu.refl E,bt.refl g,S'.put hd jq,h⟩
theorem HY (kf:jv W X.P X.ct) {ro:Option Nat} {m:Nat} {ops:Array Oper} {Q:Exit->Act->World->Prop}:∀ {rest:List Oper} {s:Ov} {E:Env} {g w:World} {a:Act} {K:Ov->Prop},df n W F b E g w s a->aiM X n ops b rest s K->
  (∀ a' w',Step n W F b E g K a' w'->Q .normal a' w')->wpListIn (Ei ro) m X.P ops Q rest a w
 | [],s,E,g,w,a,K,S,h,k=>wpListIn_nil (k a w ⟨E,g,s,bu.refl E,bt.refl g,S,h⟩)
 | o::rest,s,E,g,w,a,K,S,h,k=>by
  rcases ad1 kf S h with ⟨hq,hr⟩| ⟨hq,hr⟩;refine Xo hq λK' hK=>hr.wpIn λv w' ⟨E',g',s',he,hm,S',h'⟩=>hK _ _ (HY kf S' h' λa2 w2 ⟨E2,g2,s2,he2,hm2,S2,h2⟩=>k _ _ ⟨E2,g2,s2,he.trans he2,hm.trans hm2,S2,h2⟩)
  .obtain ⟨E',g',s',he,hm,S',h'⟩:=hr;exact Xn hq (HY kf S' h' λa2 w2 ⟨E2,g2,s2,he2,hm2,S2,h2⟩=>k _ _ ⟨E2,g2,s2,he.trans he2,hm.trans hm2,S2,h2⟩)
end
def tO (ops:Array Oper) (i j:Nat):Prop:=∃ f,reach ops f i j=true
def aok (ops:Array Oper) (dn:List Nat) (listed:Array Bool) (a c:Act):Prop:=∀ t,(∀ (i:Nat) (o:Oper),i∈dn->ops[i]?=some o->o.dst=some t->listed.getD i false=true)->a.tmps.getD t undef=c.tmps.getD t undef
structure DZ (D:List Deferred) (ops:Array Oper) (n:Nat) (Ord:List Nat->Prop) (pu:Nat->Bool) (T:List Nat->List Nat->Act->World->Prop) (listed:Array Bool) (a:Act) (w:World) (dn rest:List Nat) (c:Act):Prop where
 eq:Ord (dn++rest)
 Nh:listed.size=ops.size
 closed:∀ (j:Nat) (o:Oper),ops[j]?=some o->listed.getD j false=true->∀ e∈o.after,Region.binds .any e=true->listed.getD e.on false=true
 size:a.tmps.size=n
 defers:a.defers=D
 t:T dn rest c w
 agree:aok ops dn listed a c
 kept:∀ i∈dn,pu i=false->listed.getD i false=true
 xL:∀ i,listed.getD i false=true->i∈dn
section
variable {P:Program} {ops:Array Oper} {n:Nat} {Q:Exit->Act->World->Prop}
theorem tL {a:Act} {d:Option Nat} {v:Value} {t:Nat} (h:d≠some t):(a.put d v).tmps.getD t undef=a.tmps.getD t undef:=by
 cases d with
 | none=>rfl
 | some d=>
  simp_all [Act.put]
theorem DX {a:Act} {d:Nat} {v:Value} (h:d< a.tmps.size):(a.put (some d) v).tmps.getD d undef=v:=by simp [Act.put,h]
theorem Ez {listed:Array Bool} {i:Nat} (h:i< listed.size):(listed.setIfInBounds i true).getD i false=true:=by simp_all
theorem OF {o:Oper} {a c:Act} (hs:S9 o=true) (h:∀ t∈slotsOf ops o,a.tmps.getD t undef=c.tmps.getD t undef) (ha:a.tmps.size=n) (hc:c.tmps.size=n):
  execOp a.eval o=execOp c.eval o/\Region.wanted o (yielded ops a.tmps)=Region.wanted o (yielded ops c.tmps):=by
 refine ⟨execOp_congr o (by grind [S9]) λx hx=>?_,?_⟩
 .cases x with
  | tmp t=>exact h t (bW _ (List.mem_filterMap.2 ⟨.tmp t,by grind,rfl⟩))
  | const _=>rfl
  | global _=>rfl
  | func _=>rfl
 .unfold Region.wanted;cases hg:o.guard with
  | none=>rfl
  | some gq=>
   obtain ⟨gi,want⟩:=gq;have:yielded ops a.tmps gi=yielded ops c.tmps gi:=by
    unfold yielded;cases hgo:(ops[gi]?).bind (·.dst) with
    | none=>rfl
    | some d=>
     have hm:d∈slotsOf ops o:=by
      grind [slotsOf]
     have:=h d hm;by_cases hd:d< n
     .simp_all
     grind
   grind
set_option maxHeartbeats 1000000 in
theorem ahe {ro:Option Nat} {m:Nat} {D:List Deferred} {Ord:List Nat->Prop} {pu:Nat->Bool} {T:List Nat->List Nat->Act->World->Prop} (hE:JQ ops=true) (hD:QE ops n=true) (hnd:∀ ord,Ord ord->ord.Nodup) (Eu:∀ ord,Ord ord->∀ i,i∈ord↔i< ops.size)
  (h5:∀ dn rest c w i,T dn rest c w->Ord (dn++rest)->i∈rest->(∀ j,tO ops i j->pu j=false->j∈dn)->∃ r1 r2,Ord (dn++(r1++i::r2))/\T dn (r1++i::r2) c w/\∀ j∈r1,pu j=true)
  (hB:∀ (i k:Nat) (oi ok:Oper) (d:Nat),ops[i]?=some oi->ops[k]?=some ok->ok.dst=some d->d∈slotsOf ops oi->tO ops i k\/pu k=false)
  (mM:∀ dn rest c w,T dn rest c w->c.tmps.size=n/\c.defers=D)
  (h1:∀ dn rest c w i o,T dn rest c w->i∈dn->pu i=true->ops[i]?=some o->(∀ j∈dn,pu j=false->¬tO ops j i)->∃ v,(Region.wanted o (yielded ops c.tmps)=true->(execOp c.eval o).run P w= .ok (.value v) w)/\(Region.wanted o (yielded ops c.tmps)=false->v=undef)/\T dn rest (c.put o.dst v) w)
  (h2:∀ dn i rest c w o,T dn (i::rest) c w->pu i=true->ops[i]?=some o->∃ v,T (dn++ [i]) rest (c.put o.dst v) w)
  (h3:∀ dn i rest c w o,T dn (i::rest) c w->pu i=false->ops[i]?=some o->(Region.wanted o (yielded ops c.tmps)=true/\k7 P o c w λv w'=>T (dn++ [i]) rest (c.put o.dst v) w')\/(Region.wanted o (yielded ops c.tmps)=false/\T (dn++ [i]) rest (c.put o.dst undef) w))
  (h4:∀ dn c w,T dn [] c w->Q .normal c w):
  ∀ (fuel:Nat) (listed:Array Bool) (a:Act) (w:World) (dn rest:List Nat) (c:Act),DZ D ops n Ord pu T listed a w dn rest c->((bQ ops.size).filter λi=> !listed.getD i true).length<=fuel->wpAnyIn (Ei ro) m P .any ops Q fuel listed a w:=by
 have edges:∀ (i:Nat) (o:Oper),ops[i]?=some o->∀ e∈o.after,Region.binds .any e=true->e.on< i:=λi o ho e he hb=>by
  have hi:i< ops.size:=(aO.1 ho).1;have h1:=bo.1 hE i (dF.2 hi);simp only [ho,ao] at h1;have h2:=(Array.all_eq_true_iff_forall_mem.1 h1.1) e he;simpa [hb] using h2
 have sel:∀ (i:Nat) (o:Oper),ops[i]?=some o->S9 o=true:=λi o ho=>by
  have hi:i< ops.size:=(aO.1 ho).1;have h1:=bo.1 hE i (dF.2 hi);simp only [ho,ao] at h1;exact h1.2
 have dlt:∀ (i:Nat) (o:Oper) (d:Tmp),ops[i]?=some o->o.dst=some d->d< n:=λi o d ho hd=>by
  have hi:i< ops.size:=(aO.1 ho).1;have h1:=bo.1 hD i (dF.2 hi);simp only [ho,Option.bind_some,hd,ao] at h1;simpa using h1.1
 have Wi:∀ (i j:Nat) (oi oj:Oper) (d:Tmp),j< i->ops[i]?=some oi->ops[j]?=some oj->oi.dst=some d->oj.dst=some d->False:=λi j oi oj d Kp hi hj Qp Wb=>by
  have r8:i< ops.size:=(aO.1 hi).1;have h1:=bo.1 hD i (dF.2 r8);simp only [hi,Option.bind_some,Qp,ao] at h1;have h2:=bo.1 h1.2 j (dF.2 Kp);simp [hj,Wb] at h2
 have unl:∀ (listed:Array Bool) i,i< listed.size->(listed.getD i true=false↔listed.getD i false=false):=λlisted i hi=>by
  simp [kr,hi]
 have done:∀ {listed:Array Bool} {a:Act} {w:World} {dn rest:List Nat} {c:Act},DZ D ops n Ord pu T listed a w dn rest c->Region.ready .any ops listed= []->∀ i,i< ops.size->listed.getD i false=true:=by
  intro listed a w dn rest c inv hr i
  induction i using Nat.strongRecOn with
  | _ i ih=>
   intro hi;cases hl:listed.getD i false with
   | true=>rfl
   | false=>
    exfalso
    have hu:listed.getD i true=false:=(unl listed i (by rw [inv.Nh];exact hi)).2 hl;have r6:i∈Region.ready .any ops listed:=mem_ready.2 ⟨hu,ops[i],by simp [hi],λe he hb=>by
     have fB:=edges i ops[i] (by simp [hi]) e he hb;exact ih e.on fB (by omega)⟩
    rw [hr] at r6;cases r6
 have fin:∀ {listed:Array Bool} {a:Act} {w:World} {dn rest:List Nat} {c:Act},DZ D ops n Ord pu T listed a w dn rest c->Region.ready .any ops listed= []->Q .normal a w:=λ{listed a w dn rest c} inv hr=>by
  have jI:=done inv hr;have am0:rest= []:=by
   cases rest with
   | nil=>rfl
   | cons i r=>
    exfalso
    have hi:i∈dn++i::r:=by simp
    have h5:=inv.xL i (jI i ((Eu _ inv.eq i).1 hi));have:=hnd _ inv.eq;rw [gv] at this;exact this.2.2 i h5 i (by simp) rfl
  have ht:=inv.t;rw [am0] at ht;have hs:=mM _ _ _ _ ht;have e:a=c:=Act.ext' (λt=>by
   have:=inv.agree t λi o _ ho _=>jI i (aO.1 ho).1;by_cases hd:t< n
   .have h1:t< a.tmps.size:=by rw [inv.size];exact hd
    have h2:t< c.tmps.size:=by rw [hs.1];exact hd
    simp only [kr,eE h1,eE h2,Option.getD_some] at this;rw [eE h1,eE h2,this]
   .rw [Array.getElem?_eq_none (by rw [inv.size];omega),Array.getElem?_eq_none (by rw [hs.1];omega)]) (by rw [inv.defers,hs.2])
  rw [e];exact h4 _ _ _ ht
 -- the frame that is told runs ahead
 have adv:∀ {listed:Array Bool} {a:Act} {w:World} (r1:List Nat) {dn r2:List Nat} {c:Act},DZ D ops n Ord pu T listed a w dn (r1++r2) c->(∀ j∈r1,pu j=true/\listed.getD j false=false)->∃ c',DZ D ops n Ord pu T listed a w (dn++r1) r2 c':=by
  intro listed a w r1
  induction r1 with
  | nil=>intro dn r2 c inv _;exact ⟨c,by rw [bf];exact inv⟩
  | cons i r1 ih=>
   intro dn r2 c inv hp;obtain ⟨uo,hli⟩:=hp i (by simp);have hi:i< ops.size:=(Eu _ inv.eq i).1 (by simp);obtain ⟨v,hv⟩:=h2 dn i (r1++r2) c w ops[i] inv.t uo (by simp [hi]);have lT:DZ D ops n Ord pu T listed a w (dn++ [i]) (r1++r2) (c.put ops[i].dst v):=by
    refine ⟨by have:=inv.eq;simpa using this,inv.Nh,inv.closed,inv.size,inv.defers,hv,λt ht=>?_,λj hj JG=>?_,λj hj=>bW _ (inv.xL j hj)⟩
    .have ja:ops[i].dst≠some t:=λe=>by
      have:=ht i ops[i] (by simp) (by simp [hi]) e;rw [hli] at this;cases this
     rw [tL ja];exact inv.agree t λk o hk=>ht k o (bW _ hk)
    .rcases aV.1 hj with hj| hj
     .exact inv.kept j hj JG
     .have:j=i:=by simpa using hj
      subst this;rw [uo] at JG;cases JG
   obtain ⟨c',NI⟩:=ih lT λj hj=>hp j (aI _ hj);refine ⟨c',?_⟩;rw [aM] at NI;exact NI
 intro fuel
 induction fuel with
 | zero=>
  intro listed a w dn rest c inv hc;have hr:Region.ready .any ops listed= []:=by
   cases hr:Region.ready .any ops listed with
   | nil=>rfl
   | cons i r=>
    exfalso
    have r6:i∈Region.ready .any ops listed:=by rw [hr];simp
    obtain ⟨hu,o,ho,_⟩:=mem_ready.1 r6;have:i∈(bQ ops.size).filter λi=> !listed.getD i true:=gk.2 ⟨dF.2 (aO.1 ho).1,by simp [hu]⟩;have:=List.length_pos_of_mem this;omega
  exact ⟨hr,fin inv hr⟩
 | succ fuel ih=>
  intro listed a w dn rest c inv hc;refine ⟨fin inv,λi hi=>?_⟩;obtain ⟨hu,o,ho,agU⟩:=mem_ready.1 hi;have fB:i< ops.size:=(aO.1 ho).1;have Dg:i< listed.size:=by rw [inv.Nh];exact fB
  have hul:listed.getD i false=false:=(unl listed i Dg).1 hu;have aah:((bQ ops.size).filter λk=> !(listed.setIfInBounds i true).getD k true).length<=fuel:=by
   have:=filter_lt (p:=λk=> !listed.getD k true) (q:=λk=> !(listed.setIfInBounds i true).getD k true) (bQ ops.size) (λx _ hx=>by
     by_cases hxi:i=x;subst hxi;simpa using hu
     .simpa [getD_set_ne true hxi] using hx) i (dF.2 fB) (by simp [hu]) (by simp [kr,Dg])
   omega
  have set_get:∀ k,(listed.setIfInBounds i true).getD k false=true->k≠i->listed.getD k false=true:=λk hk ja=>by
   rwa [getD_set_ne false (Ne.symm ja)] at hk
  have afp:∀ (j:Nat) (oj:Oper),ops[j]?=some oj->(listed.setIfInBounds i true).getD j false=true->∀ e∈oj.after,Region.binds .any e=true->(listed.setIfInBounds i true).getD e.on false=true:=λj oj hj hlj e he hb=>by
   by_cases Kp:j=i
   .subst Kp;rw [ho] at hj;obtain rfl:=aj hj;exact getD_set_true (agU e he hb)
   .exact getD_set_true (inv.closed j oj hj (set_get j hlj Kp) e he hb)
  have waited:∀ k,tO ops i k->listed.getD k false=true:=λk ⟨f,hr⟩=>by
   cases f with
   | zero=>simp [reach] at hr
   | succ f=>
    unfold reach at hr;simp only [ho] at hr;obtain ⟨q,hq,hb⟩:=Array.any_eq_true.1 hr;simp only [ao,kq] at hb;have hl:=agU _ (Array.getElem_mem hq) hb.1;rcases hb.2 with he| he;rw [<-ai he];exact hl;exact qG inv.closed f _ _ he hl
  -- what it reads stands in both frames
  have same:∀ {TL sy:List Nat} {c':Act},DZ D ops n Ord pu T listed a w TL sy c'->execOp a.eval o=execOp c'.eval o/\Region.wanted o (yielded ops a.tmps)=Region.wanted o (yielded ops c'.tmps):=λ{TL sy c'} lT=>
   OF (n:=n) (sel i o ho) (λt ht=>lT.agree t λk ok Di hk hdk=>(hB i k o ok t ho hk hdk ht).elim (waited k) (lT.kept k Di)) lT.size (mM _ _ _ _ lT.t).1
  have next:∀ {TL sy:List Nat} {c':Act} {v:Value} {w':World},DZ D ops n Ord pu T listed a w TL sy c'->∀ (dn'' rest'':List Nat),Ord (dn''++rest'')->i∈dn''->(∀ j,j∈dn''->j∈TL\/j=i)->(∀ j∈TL,j∈dn'')->T dn'' rest'' (c'.put o.dst v) w'->DZ D ops n Ord pu T (listed.setIfInBounds i true) (a.put o.dst v) w' dn'' rest'' (c'.put o.dst v):=λ{TL sy c' v w'} lT dn'' rest'' he yY apq amT ht=>by
   have yZ:=(mM _ _ _ _ lT.t).1;refine ⟨he,by simp [lT.Nh],afp,?_,?_,ht,λt ajV=>?_,λj hj JG=>?_,λj hj=>?_⟩;cases hod:o.dst<;>simp [Act.put,lT.size];cases hod:o.dst<;>simp [Act.put,lT.defers]
   .by_cases hod:o.dst=some t
    .have hdn:=dlt i o t ho hod;rw [hod,DX (by rw [lT.size];exact hdn),DX (by rw [yZ];exact hdn)]
    .rw [tL hod,tL hod];refine lT.agree t λk ok hk sa hdk=>?_;have hki:k≠i:=λe=>by subst e;rw [ho] at sa;obtain rfl:=aj sa;exact hod hdk
     exact set_get k (ajV k ok (amT k hk) sa hdk) hki
   .by_cases Kp:j=i
    .subst Kp;exact Ez Dg
    .rcases apq j hj with h| h
     .exact getD_set_true (lT.kept j h JG)
     .exact absurd h Kp
   .by_cases Kp:j=i
    .rw [Kp];exact yY
    .exact amT j (lT.xL j (set_get j hj Kp))
  have again:pu i=true->∀ {TL sy:List Nat} {c':Act},DZ D ops n Ord pu T listed a w TL sy c'->i∈TL->wpOpIn (Ei ro) m P ops Q i (wpAnyIn (Ei ro) m P .any ops Q fuel (listed.setIfInBounds i true)) a w:=λuo {TL sy c'} lT yY=>by
   obtain ⟨v,hv1,hv2,hv3⟩:=h1 TL sy c' w i o lT.t yY uo ho λj hj JG hw=>by
    have hlj:=lT.kept j hj JG;obtain ⟨f,hf⟩:=hw;have:=qG lT.closed f _ _ hf hlj;rw [hul] at this;cases this
   obtain ⟨e1,e2⟩:=same lT;have go:wpAnyIn (Ei ro) m P .any ops Q fuel (listed.setIfInBounds i true) (a.put o.dst v) w:=
    ih _ _ _ TL sy _ (next lT TL sy lT.eq yY (λj hj=>.inl hj) (λj hj=>hj) hv3) aah
   unfold wpOpIn;simp only [ho];split
   .rename_i hw;refine ⟨λ_ _=>trivial,?_⟩;have hr:=hv1 (by rw [<-e2];exact hw);rw [<-e1] at hr;rw [Oper.semAt_eq _ _ _ (wY hr λd e=>by cases e),hr];exact go
   .rename_i hw;have:=hv2 (by rw [<-e2];simpa using hw);rw [<-this];exact ⟨λ_ _=>trivial,go⟩
  by_cases yY:i∈dn
  .have uo:pu i=true:=by
    cases hp:pu i with
    | true=>rfl
    | false=>
     have:=inv.kept i yY hp;rw [hul] at this;cases this
   exact again uo inv yY
  .have hir:i∈rest:=by
    have:i∈dn++rest:=(Eu _ inv.eq i).2 fB;rcases aV.1 this with h| h;exact absurd h yY;exact h
   obtain ⟨r1,r2,he,hT,NC⟩:=h5 dn rest c w i inv.t inv.eq hir λj hw _=>inv.xL j (waited j hw);have inv:DZ D ops n Ord pu T listed a w dn (r1++i::r2) c:=⟨he,inv.Nh,inv.closed,inv.size,inv.defers,hT,inv.agree,inv.kept,inv.xL⟩;have am9:=hnd _ inv.eq;rw [gv] at am9;have wj:∀ j∈r1,pu j=true/\listed.getD j false=false:=λj hj=>by
    have hjd:j ∉ dn:=λh=>am9.2.2 j h j (by simp [hj]) rfl;have hlj:listed.getD j false=false:=by
     cases hl:listed.getD j false with
     | false=>rfl
     | true=>exact absurd (inv.xL j hl) hjd
    exact ⟨NC j hj,hlj⟩
   cases uo:pu i with
   | true=>
    obtain ⟨c',lT⟩:=adv (r1++ [i]) (dn:=dn) (r2:=r2) (c:=c) (by simpa using inv) λj hj=>by
     rcases aV.1 hj with h| h;exact wj j h
     .have:j=i:=by simpa using h
      subst this;exact ⟨uo,hul⟩
    exact again uo lT (by simp)
   | false=>
    obtain ⟨c',lT⟩:=adv r1 (dn:=dn) (r2:=i::r2) (c:=c) inv wj;obtain ⟨e1,e2⟩:=same lT;have go:∀ v w',T (dn++r1++ [i]) r2 (c'.put o.dst v) w'->wpAnyIn (Ei ro) m P .any ops Q fuel (listed.setIfInBounds i true) (a.put o.dst v) w':=λv w' ht=>
     ih _ _ _ (dn++r1++ [i]) r2 _ (next lT (dn++r1++ [i]) r2 (by have:=inv.eq;simpa using this) (by simp) (λj hj=>by simpa [or_assoc] using hj) (λj hj=>bW _ hj) ht) aah
    unfold wpOpIn;simp only [ho];rcases h3 (dn++r1) i r2 c' w o lT.t uo ho with ⟨hw,hr⟩| ⟨hw,ht⟩
    .rw [if_pos (by rw [e2];exact hw)];have hr':k7 P o a w λv w'=>T (dn++r1++ [i]) r2 (c'.put o.dst v) w':=by
      unfold k7 at hr ⊢;rw [e1];exact hr
     exact hr'.wpIn go
    .rw [if_neg (by rw [e2,hw];simp)];exact ⟨λ_ _=>trivial,go undef w ht⟩
end
structure DT (f:(SV->Prop)->Prop):Prop where
 mono:∀ {K K':SV->Prop},(∀ v,K v->K' v)->f K->f K'
 det:∀ {K:SV->Prop},f K->f λv=>K v/\f λv'=>v'=v
namespace DT
variable {f g:(SV->Prop)->Prop}
theorem leaf (v:SV):DT λK=>K v:=⟨by grind,by grind⟩
theorem no:DT λ_=>False:=⟨λ_ h=>h,λh=>h.elim⟩
theorem imp {p:Prop} (h:DT f):DT λK=>p->f K:=⟨λm k hp=>h.mono m (k hp),λk hp=>h.mono (by grind) (h.det (k hp))⟩
theorem and {p:Prop} (h:DT f):DT λK=>p/\f K:=⟨λm k=>⟨k.1,h.mono m k.2⟩,λk=>⟨k.1,h.mono (by grind) (h.det k.2)⟩⟩
theorem ex {α:Type} {f:α->(SV->Prop)->Prop} (h:∀ x,DT (f x)):DT λK=>∃ x,f x K:=⟨λm ⟨x,k⟩=>⟨x,(h x).mono m k⟩,λ⟨x,k⟩=>⟨x,(h x).mono (by grind) ((h x).det k)⟩⟩
theorem hZ {c:Bool} (h:DT f) (h':DT g):DT λK=>br c (f K) (g K):=by cases c<;>assumption
theorem ite {p:Prop} [Decidable p] (h:DT f) (h':DT g):DT λK=>if p then f K else g K:=by
 by_cases hp:p
 .simp_all
 simp_all
end DT
section
variable {X:Vx} {P:Program} {b:Bs} {s:Ov}
theorem DT.arith (k:IntKind) (z:Int):DT (arith k z):=by unfold Lm.arith;repeat' (first| exact DT.leaf _| exact DT.no| refine DT.and ?_| refine DT.imp ?_| refine DT.ite ?_ ?_| refine DT.hZ ?_ ?_| split)
theorem DT.Qf (op:BinOp) (k:IntKind) (x y:Int):DT (Qf op k x y):=by
 unfold Lm.Qf
 repeat' (first| exact DT.arith _ _| exact DT.leaf _| exact DT.no| refine DT.and ?_| refine DT.imp ?_| refine DT.ite ?_ ?_| refine DT.hZ ?_ ?_| split)
theorem DT.Ve (op:BinOp) (x y:ByteArray):DT (Ve op x y):=by unfold Lm.Ve;repeat' (first| exact DT.leaf _| exact DT.no| refine DT.and ?_| refine DT.imp ?_| refine DT.ite ?_ ?_| refine DT.hZ ?_ ?_| split)
theorem Ad {t:TypeId} {y:Cl} (h:CR P t=true):GH (P.underlying t) y=false:=by
 grind [CR, GH]
theorem DT.JB (wr:Bool) (op:BinOp) (k:IntKind) (x y:Int):DT (JB wr op k x y):=by
 unfold Lm.JB
 repeat' (first| exact DT.Qf _ _ _ _| exact DT.leaf _| exact DT.no| refine DT.and ?_| refine DT.imp ?_| refine DT.ite ?_ ?_| refine DT.hZ ?_ ?_| split)
theorem DT.ED {wr:Bool} {JS:Bool} {op:BinOp} {t:TypeId} {x y:SV} (h:CR P t=true):DT (ED wr P b s JS op t x y):=by
 unfold Lm.ED;split
 .split
  .simp [DT.leaf, DT.and, DT.imp]
  .simp [DT.leaf, DT.and, DT.imp]
  .refine DT.ite (DT.JB _ _ _ _ _) DT.no
 .grind [DT.Ve]
 .repeat' (first| exact DT.leaf _| exact DT.no| refine DT.and ?_| refine DT.imp ?_| refine DT.ite ?_ ?_| refine DT.hZ ?_ ?_| split)
 .repeat' (first| exact DT.leaf _| exact DT.no| refine DT.and ?_| refine DT.imp ?_| refine DT.ite ?_ ?_| refine DT.hZ ?_ ?_| split)
 .simp only [Ad h,eO,dQ,if_false]
  repeat' (first| exact DT.leaf _| exact DT.no| refine DT.and ?_| refine DT.imp ?_| refine DT.ite ?_ ?_| refine DT.hZ ?_ ?_| split)
 .exact DT.no
theorem DT.unV {wr:Bool} {op:UnOp} {x:SV}:DT (unV wr op x):=by
 unfold Lm.unV
 repeat' (first| exact DT.JB _ _ _ _ _| exact DT.arith _ _| exact DT.leaf _| exact DT.no| refine DT.and ?_| refine DT.imp ?_| refine DT.ite ?_ ?_| refine DT.hZ ?_ ?_| split)
theorem DT.tn {t:TypeId} {x:Cl}:DT (tn P b s t x):=by
 unfold Lm.tn
 repeat' (first| exact DT.leaf _| (refine DT.ex λ_=>?_)| exact DT.no| refine DT.and ?_| refine DT.imp ?_| refine DT.ite ?_ ?_| refine DT.hZ ?_ ?_| split)
theorem DT.Er {t:TypeId} {x:Cl}:DT (Er P b s t x):=by
 unfold Lm.Er
 repeat' (first| exact DT.leaf _| (refine DT.ex λ_=>?_)| exact DT.no| refine DT.and ?_| refine DT.imp ?_| refine DT.ite ?_ ?_| refine DT.hZ ?_ ?_| split)
theorem DT.iC {t:TypeId} {x:Cl} {i:Int}:DT (iC P b s t x i):=by
 unfold Lm.iC
 repeat' (first| exact DT.leaf _| exact DT.no| refine DT.and ?_| refine DT.imp ?_| refine DT.ite ?_ ?_| refine DT.hZ ?_ ?_| split)
theorem DT.pC {t:TypeId} {x:Cl} {l h:Option Int}:DT (pC P b s t x l h):=by
 unfold Lm.pC SU Zh
 repeat' (first| exact DT.leaf _| exact DT.no| refine DT.and ?_| refine DT.imp ?_| refine DT.ite ?_ ?_| refine DT.hZ ?_ ?_| split)
theorem DT.wg {t:TypeId} {ps:List (Nat×S1)}:DT (wg P t ps):=by
 unfold Lm.wg
 repeat' (first| exact DT.leaf _| exact DT.no| refine DT.and ?_| refine DT.imp ?_| refine DT.ite ?_ ?_| refine DT.hZ ?_ ?_| split)
theorem DT.qA {x:Operand} {f:SV->(SV->Prop)->Prop} (h:∀ v,DT (f v)):DT λK=>qA b s x λv=>f v K:=by
 unfold Lm.qA;cases Lm.fe b s x with
 | none=>exact DT.no
 | some v=>grind
theorem DT.nU {x:Operand} {f:Cl->(SV->Prop)->Prop} (h:∀ v,DT (f v)):DT λK=>nU b s x λv=>f v K:=by
 unfold Lm.nU;split
 .grind
 .exact DT.no
theorem DT.wU {x:Option Operand} {f:Option SV->(SV->Prop)->Prop} (h:∀ v,DT (f v)):DT λK=>wU b s x λv=>f v K:=by
 unfold Lm.wU;cases x with
 | none=>grind
 | some x=>simp_all [DT.qA]
end
section
variable {X:Vx} {P:Program} {n:Nat} {W:cV} {F:List Atom} {b:Bs} {E:Env} {g w:World} {s s':Ov} {a:Act} {o:Oper}
structure OO (b:Bs) (s s':Ov) (o:Oper):Prop where
 fe:∀ x∈o.op.operands.toList,fe b s x=fe b s' x
 obj:∀ x∈o.op.operands.toList,∀ v,Lm.fe b s x=some v->∀ l∈v.labels,b.obj s l=b.obj s' l
theorem jS {x:Operand} {k k':SV->Prop} (N:OO b s s' o) (hx:x∈o.op.operands.toList) (hk:∀ v,(∀ l∈v.labels,b.obj s l=b.obj s' l)->k v->k' v) (h:qA b s x k):qA b s' x k':=by
 unfold qA at h ⊢;rw [<-N.fe x hx];cases hv:Lm.fe b s x with
 | none=>grind
 | some v=>rw [hv] at h;exact hk v (N.obj x hx v hv) h
theorem lN {x:Operand} {k k':Cl->Prop} (N:OO b s s' o) (hx:x∈o.op.operands.toList) (hk:∀ v,(∀ l∈v.labels,b.obj s l=b.obj s' l)->k v->k' v) (h:nU b s x k):nU b s' x k':=by
 unfold nU at h ⊢;rw [<-N.fe x hx];cases hv:Lm.fe b s x with
 | none=>grind
 | some v=>
  rw [hv] at h
  match v,hv,h with
  | .v (.c c),hv,h=>exact hk c (λl hl=>N.obj x hx _ hv l hl) h
  | .v (.agg _),_,h=>exact h
  | .cC _,_,h=>exact h
  | .any,_,h=>exact h
  | .arr _ _,_,h=>exact h
theorem GF {x:Option Operand} {k k':Option SV->Prop} (N:OO b s s' o) (hx:∀ y,x=some y->y∈o.op.operands.toList) (hk:∀ v,k v->k' v) (h:wU b s x k):wU b s' x k':=by
 unfold wU at h ⊢;cases x with
 | none=>grind
 | some y=>exact jS N (hx y rfl) (by grind) h
theorem P8 {t:TypeId} {c:Cl} {K:SV->Prop} (N:∀ l∈c.labels,b.obj s l=b.obj s' l):tn P b s t c K=tn P b s' t c K:=by
 unfold tn
 grind [Cl.labels]
theorem VV {t:TypeId} {c:Cl} {K:SV->Prop} (N:∀ l∈c.labels,b.obj s l=b.obj s' l):Er P b s t c K=Er P b s' t c K:=by
 unfold Er
 grind [Cl.labels]
theorem AI {t:TypeId} {c:Cl} {i:Int} {K:SV->Prop} (N:∀ l∈c.labels,b.obj s l=b.obj s' l):iC P b s t c i K=iC P b s' t c i K:=by
 unfold iC
 repeat' (first| rfl| (rw [N _ (by simp [Cl.labels])])| split)
theorem Mg {t:TypeId} {c:Cl} {i j:Option Int} {K:SV->Prop} (N:∀ l∈c.labels,b.obj s l=b.obj s' l):pC P b s t c i j K=pC P b s' t c i j K:=by
 unfold pC
 repeat' (first| rfl| (rw [N _ (by simp [Cl.labels])];done)| split)
theorem Nl {e:Ty} {c:Cl} (N:∀ l∈c.labels,b.obj s l=b.obj s' l):tp b s e c=tp b s' e c:=by
 unfold tp
 repeat' (first| rfl| (rw [N _ (by simp [Cl.labels])];done)| split)
theorem WS {wr:Bool} {JS:Bool} {op:BinOp} {t:TypeId} {x y:SV} {K:SV->Prop} (h:CR P t=true):ED wr P b s JS op t x y K=ED wr P b s' JS op t x y K:=by
 unfold ED;split;rfl;rfl;rfl;rfl;simp only [Ad h,eO,dQ,if_false];rfl
theorem Ab:∀ {l:List (Nat×Operand)},(∀ x∈l.map (·.2),Lm.fe b s x=Lm.fe b s' x)->tk b s l=tk b s' l
 | [],_=>rfl
 | (i,x)::r,h=>by
  unfold tk;rw [h x (by simp),Ab (l:=r) λy hy=>h y (by simpa using .inr (by simpa using hy))]
theorem QK {src dst:TypeId} {c:SV} {K:SV->Prop} (hd:(match X.P.underlying dst with| some .string| some (.int _)=>true| _=>false)=true) (N:∀ l∈c.labels,b.obj s l=b.obj s' l):oV X b s src dst c (λv _=>K v)=oV X b s' src dst c λv _=>K v:=by
 unfold oV;split;rfl;rfl;rfl
 .rename_i h1 h2;simp [h2] at hd
 .split
  .rw [Nl N]
  .rfl
 .rename_i h1 h2;simp [h2] at hd
 .rfl
theorem DT.oV {src dst:TypeId} {c:SV}:DT λK=>oV X b s src dst c λv _=>K v:=by
 unfold Lm.oV ajw
 repeat' (first| exact DT.leaf _| exact DT.no| refine DT.and ?_| refine DT.imp ?_| refine DT.ite ?_ ?_| refine DT.hZ ?_ ?_| split)
theorem aaC {src dst:TypeId} {c:SV} {K:SV->Ov->Prop} (hd:(match X.P.underlying dst with| some .string| some (.int _)=>true| _=>false)=true):oV X b s src dst c K=oV X b s src dst c λv _=>K v s:=by
 unfold oV;split<;>try rfl
 rename_i h1 h2;simp [h2] at hd
theorem aiN {K:SV->Ov->Prop} (hp:lE X.P o=true):LW X b s o K=LW X b s o λv _=>K v s:=by
 unfold lE at hp;simp only [ao] at hp;obtain ⟨_,hp⟩:=hp;unfold LW;split at hp<;>first| (cases hp;done)| skip
 all_goals rename_i heq
 all_goals simp only [heq]
 all_goals first| rfl| skip
 .unfold qA;split
  .exact aaC hp
  .rfl
 .split at hp
  .rename_i hc;unfold BT;simp only [hc];rfl
  .cases hp
theorem ad0 (hp:lE X.P o=true):DT λK=>LW X b s o λv _=>K v:=by
 unfold lE at hp;simp only [ao] at hp;obtain ⟨_,hp⟩:=hp;unfold LW;split at hp<;>first| (cases hp;done)| skip
 all_goals rename_i heq
 all_goals simp only [heq]
 .exact DT.qA λv=>DT.leaf v
 .exact DT.qA λv=>DT.leaf v
 .exact DT.nU λv=>DT.qA λu=>DT.qA λu'=>by repeat' (first| exact DT.leaf _| exact DT.no| refine DT.and ?_| refine DT.imp ?_| refine DT.ite ?_ ?_| refine DT.hZ ?_ ?_| split)
 .exact DT.qA λv=>DT.unV
 .exact DT.qA λv=>by repeat' (first| exact DT.leaf _| exact DT.no| refine DT.and ?_| refine DT.imp ?_| refine DT.ite ?_ ?_| refine DT.hZ ?_ ?_| split)
 .exact DT.qA λv=>by repeat' (first| exact DT.leaf _| exact DT.no| refine DT.and ?_| refine DT.imp ?_| refine DT.ite ?_ ?_| refine DT.hZ ?_ ?_| split)
 .exact DT.nU λv=>DT.tn
 .exact DT.nU λv=>by repeat' (first| exact DT.leaf _| exact DT.no| refine DT.and ?_| refine DT.imp ?_| refine DT.ite ?_ ?_| refine DT.hZ ?_ ?_| split)
 .exact DT.nU λv=>by repeat' (first| exact DT.leaf _| exact DT.no| refine DT.and ?_| refine DT.imp ?_| refine DT.ite ?_ ?_| refine DT.hZ ?_ ?_| split)
 .exact DT.nU λv=>DT.nU λq=>by
   repeat' (first| exact DT.iC| exact DT.leaf _| exact DT.no| refine DT.and ?_| refine DT.imp ?_| refine DT.ite ?_ ?_| refine DT.hZ ?_ ?_| split)
 .exact DT.nU λv=>DT.nU λq=>by repeat' (first| exact DT.leaf _| exact DT.no| refine DT.and ?_| refine DT.imp ?_| refine DT.ite ?_ ?_| refine DT.hZ ?_ ?_| split)
 .split
  .exact DT.wg
  .exact DT.no
 .exact DT.nU λv=>DT.wU λl=>DT.wU λh=>by
   repeat' (first| exact DT.pC| exact DT.leaf _| exact DT.no| refine DT.and ?_| refine DT.imp ?_| refine DT.ite ?_ ?_| refine DT.hZ ?_ ?_| split)
 .exact DT.qA λv=>DT.qA λu=>DT.ED hp
 .exact DT.qA λv=>DT.oV
 .split at hp
  .rename_i hc;unfold BT;simp only [hc];split
   .exact DT.no
   .unfold pP;simp only;split
    .exact DT.Er
    .exact DT.no
  .cases hp
end
end Go.Lm

namespace Go.Lm
open Go Go.RowKit
section
variable {X:Vx} {n:Nat} {W:cV} {F:List Atom} {b:Bs} {E:Env} {g w:World} {s s':Ov} {a:Act} {o:Oper}
theorem LV {K:SV->Prop} (hp:lE X.P o=true) (N:OO b s s' o) (h:LW X b s o λv _=>K v):LW X b s' o λv _=>K v:=by
 have Tw:=hp;unfold lE at hp;simp only [ao] at hp;obtain ⟨_,hp⟩:=hp;unfold LW at h ⊢;split at hp<;>first| (cases hp;done)| skip
 all_goals rename_i heq
 all_goals simp only [heq] at h ⊢
 .exact jS N (by simp [heq,Op.operands]) (λv _ h=>h) h
 .exact jS N (by simp [heq,Op.operands]) (λv _ h=>h) h
 .exact lN N (by simp [heq,Op.operands]) (λv _ h=>jS N (by simp [heq,Op.operands]) (λv _ h=>jS N (by simp [heq,Op.operands]) (λv _ h=>h) h) h) h
 .exact jS N (by simp [heq,Op.operands]) (λv _ h=>h) h
 .exact jS N (by simp [heq,Op.operands]) (λv _ h=>h) h
 .exact jS N (by simp [heq,Op.operands]) (λv _ h=>h) h
 .exact lN N (by simp [heq,Op.operands]) (λv hl h=>by rw [<-P8 hl];exact h) h
 .exact lN N (by simp [heq,Op.operands]) (λv _ h=>h) h
 .exact lN N (by simp [heq,Op.operands]) (λv _ h=>h) h
 .refine lN N (by simp [heq,Op.operands]) (λv hl h=>lN N (by simp [heq,Op.operands]) (λq _ h=>?_) h) h;split at h
  rw [<-AI hl];exact h;cases h
 .exact lN N (by simp [heq,Op.operands]) (λv _ h=>lN N (by simp [heq,Op.operands]) (λq _ h=>h) h) h
 .rename_i t ps;rw [<-Ab λx hx=>N.fe x (by simpa [heq,Op.operands] using hx)];exact h
 .refine lN N (by simp [heq,Op.operands]) (λv hl h=>GF N (λy hy=>by simp [heq,Op.operands,hy]) (λl h=>GF N (λy hy=>by simp [heq,Op.operands,hy]) (λm h=>?_) h) h) h;split at h
  rw [<-Mg hl];exact h;cases h
 .exact jS N (by simp [heq,Op.operands]) (λv _ h=>jS N (by simp [heq,Op.operands]) (λu _ h=>by rw [<-WS hp];exact h) h) h
 .exact jS N (by simp [heq,Op.operands]) (λv hl h=>by rw [<-QK hp hl];exact h) h
 .rename_i c;split at hp
  .rename_i hc;have am6:∀ x∈c.args.toList,x∈o.op.operands.toList:=λx hx=>by
    rw [heq];have OV:x∈c.args:=by simpa using hx
    simp [Op.operands,Call.operands,OV]
   unfold BT at h ⊢;simp only [hc] at h ⊢;have am7:∀ (l:List Operand),(∀ x∈l,x∈o.op.operands.toList)->AG b s l=AG b s' l:=by
    intro l
    induction l with
    | nil=>intro _;rfl
    | cons x r ih=>
     intro hl;unfold AG;rw [N.fe x (hl x (by simp)),ih λy hy=>hl y (aI _ hy)]
   have apT:∀ (l:List Operand) (vs:List SV),(∀ x∈l,x∈o.op.operands.toList)->AG b s l=some vs->∀ v∈vs,∀ k∈v.labels,b.obj s k=b.obj s' k:=by
    intro l
    induction l with
    | nil=>intro vs _ hv v hm;obtain rfl: []=vs:=aj hv;cases hm
    | cons x r ih=>
     intro vs hl hv v hm;unfold AG at hv;split at hv
     .rename_i u hu;split at hv
      .rename_i q hq;obtain rfl:u::q=vs:=aj hv;rcases bm.1 hm with rfl| hm
       .exact N.obj x (hl x (by simp)) v hu
       .exact ih q (λy hy=>hl y (aI _ hy)) hq v hm
      .cases hv
     .cases hv
   rw [<-am7 c.args.toList am6];cases hv:AG b s c.args.toList with
   | none=>rw [hv] at h;exact h
   | some vs=>
    rw [hv] at h;simp only at h ⊢;unfold pP at h ⊢;simp only at h ⊢;split at h
    .rename_i x t _;rw [<-VV λk hk=>apT c.args.toList _ am6 hv (.v (.c x)) (by simp) k hk];exact h
    .exact h
  .cases hp
theorem Vt (S:df n W F b E g w s a) {src dst:TypeId} {x:Operand} {c:SV} {K:SV->Prop} (ho:o.op= .convert src dst x) (r:dd E g c (a.eval x)) (hd:(match X.P.underlying dst with| some .string| some (.int _)=>true| _=>false)=true) (h:oV X b s src dst c λv _=>K v):ER X.P o a w E g K:=by
 have same:∀ {v:Value} {sv:SV},(convert src dst (a.eval x)).run X.P w= .ok v w->dd E g sv v->K sv->ER X.P o a w E g K:=λ{v sv} h1 h2 h3=>
  ⟨v,sv,by simp [execOp,ho,h1],h2,h3⟩
 unfold oV at h;split at h
 .rename_i k1 k k' m hs hd;obtain ⟨hx,hm⟩:=il r;have hr:(convert src dst (a.eval x)).run X.P w= .ok (.int k (k.wrap m)) w:=by
   simp [convert,hx,run_underlying hs,run_underlying hd,Conv.intToInt]
  split at h
  .rename_i hk;obtain rfl:=IntKind.eq_of_beq hk;rw [pO hm] at hr;exact same hr (dH hm) h
  .split at h
   .rename_i hw;have hn:=EK hw hm;rw [pO hn] at hr;exact same hr (dH hn) h
   .exact same hr (dH (ez _ _)) (h (ez _ _))
 .rename_i z hs hd;obtain ⟨hx,hz⟩:=r;refine same (v:=.string z) (sv:=.str z) (by simp [convert,hx,run_underlying hs,run_underlying hd]) ⟨rfl,hz⟩ h
 .rename_i k k1 m hs hd;obtain ⟨hx,_⟩:=il r;obtain ⟨hl,h⟩:=h;refine same (v:=.string (Utf8.encode m)) (sv:=.str (Utf8.encode m)) ?_ ⟨rfl,hl⟩ h;simp [convert,hx,run_underlying hs,run_underlying hd,Conv.intToString]
 .rename_i h2;simp [h2] at hd
 .rename_i e y hs hd;split at h
  .rename_i he;split at h
   .rename_i l hl;obtain ⟨_,hi⟩:=ug S r hl;have hr:=Ce (l:=l) hi hs he hd;refine same hr (sv:=.str (fY l)) ⟨rfl,?_⟩ h;have:=lJ hi;show (fY l).size<=maxLen;have e2:(fY l).size=l.length:=by simp [fY,ByteArray.size]
    rw [e2];exact this
   .cases h
  .cases h
 .rename_i h1 h2;simp [h2] at hd
 .cases h
theorem Sm {K:SV->Prop} (hp:lE X.P o=true) (S:df n W F b E g w s a) (h:LW X b s o λv _=>K v):ER X.P o a w E g K:=by
 unfold lE at hp;simp only [ao] at hp;obtain ⟨_,hp⟩:=hp;unfold LW at h;split at hp<;>first| (cases hp;done)| skip
 all_goals rename_i ho
 all_goals simp only [ho] at h
 .obtain ⟨v,hv,h⟩:=fE h;exact ⟨_,_,by simp [execOp,ho],S.fe hv,h⟩
 .obtain ⟨v,hv,h⟩:=fE h;exact ⟨_,_,by simp [execOp,ho],S.fe hv,h⟩
 .rename_i c x y;obtain ⟨q,hq,h⟩:=dM h;obtain ⟨v,hv,h⟩:=fE h;obtain ⟨u,hu,h⟩:=fE h;split at h
  .rename_i z;obtain ⟨hz,_⟩:=S.fe hq;rcases tH h with ⟨e,h⟩| ⟨e,h⟩<;>subst e
   .exact ⟨a.eval x,_,by simp [execOp,ho,hz,asBool],S.fe hv,h⟩
   .exact ⟨a.eval y,_,by simp [execOp,ho,hz,asBool],S.fe hu,h⟩
  .cases h
 .rename_i op t x;obtain ⟨v,hv,h⟩:=fE h;exact ER.of (m:=Op.unary op (a.eval x)) (by simp [execOp,ho]) (SB (S.fe hv) h)
 .obtain ⟨v,hv,h⟩:=fE h;split at h
  .split at h
   .rename_i l _ c hc;obtain ⟨us,h1,h2⟩:=S.fe hv;obtain ⟨u,h3,h4⟩:=h1.get hc;exact ⟨u,.v c,by simp [execOp,ho,h2,Instr.extract,h3],h4,h⟩
   .cases h
  .cases h
 .obtain ⟨v,hv,h⟩:=fE h;split at h
  .split at h
   .rename_i f hf;split at h
    .rename_i r hr;exact Gj ho (S.fe hv) hf hr h
    .cases h
   .cases h
  .cases h
 .rename_i t x;obtain ⟨c,hc,h⟩:=dM h;exact ER.of (m:=Instr.loadAt t (a.eval x)) (by simp [execOp,ho]) (xZ S (S.fe hc) h)
 .rename_i x;obtain ⟨c,hc,h⟩:=dM h;have r:=S.fe hc;have key:∀ q:Addr,a.eval x= .pointer (some q)->(execOp a.eval o).run X.P w= .ok (.value (a.eval x)) w:=λq hq=>by simp [execOp,ho,hq]
  split at h
  .obtain ⟨bb,h1,h2⟩:=r;exact ⟨_,_,key _ h2,S.fe hc,h⟩
  .obtain ⟨h0,v,h1,h2⟩:=r;obtain ⟨cs,h3,_⟩:=As h1 h0.1 h0.2.1;obtain ⟨q,hq,_⟩:=h3 g (bt.refl g);rw [hq] at h2;exact ⟨_,_,key _ h2,S.fe hc,h⟩
  .obtain ⟨v,h1,h2,q,hq⟩:=r;exact ⟨_,_,key _ hq,S.fe hc,h⟩
  exact ⟨_,_,key _ r.2.1,S.fe hc,h⟩;cases h
 .obtain ⟨c,hc,h⟩:=dM h;split at h
  .rename_i f hf;split at h
   .rename_i ie mN;obtain ⟨hs,h⟩:=dc h;split at h
    .rename_i c' NI;obtain ⟨v,h1,h2⟩:=Gm (w:=w) ho (S.fe hc) hf mN hs NI;exact ⟨v,.c c',h1,h2,h⟩
    .cases h
   .cases h
  .cases h
 .obtain ⟨c,hc,h⟩:=dM h;obtain ⟨q,hq,h⟩:=dM h;split at h
  exact su S ho (S.fe hc) (il (S.fe hq)).1 h;cases h
 .obtain ⟨c,hc,h⟩:=dM h;obtain ⟨q,hq,h⟩:=dM h;split at h
  .obtain ⟨h0,h1,h⟩:=h;exact Gi ho (by assumption) (S.fe hc).1 (S.fe hq).1 h0 h1 h
  .cases h
 .split at h
  .rename_i l hl;exact Ck ho (ua S hl) h
  .cases h
 .obtain ⟨c,hc,h⟩:=dM h;obtain ⟨l,h,hl⟩:=ub S h;obtain ⟨m,h,hm⟩:=ub S h;split at h
  .rename_i i j r8 Ev;exact Cg S ho (S.fe hc) (hl _ r8) (hm _ Ev) h
  .cases h
 .rename_i op t x y yt;obtain ⟨v,hv,h⟩:=fE h;obtain ⟨u,hu,h⟩:=fE h;exact ER.of (m:=(do eqGuard op t x y (a.eval x) (a.eval y);binOp op t (a.eval x) (a.eval y))) (by simp [execOp,ho]) (Mv S (S.fe hv) (S.fe hu) h)
 .obtain ⟨v,hv,h⟩:=fE h;exact Vt S ho (S.fe hv) hp h
 .rename_i c;split at hp
  .rename_i hc;unfold BT at h;split at h
   .cases h
   .rename_i args ha;simp only [hc] at h;have hv:=uc S ha;obtain ⟨callee,cargs,ctys⟩:=c;simp only at hc ha hv h;subst hc;unfold pP at h;simp only at h;split at h
    .rename_i x t Z0;obtain ⟨u,e,hu⟩:=tZ hv;obtain ⟨ox,rfl,rfl⟩:=an2 e;obtain rfl:=WX Z0;exact Mp S ho hu h
    .cases h
  .cases hp
end
theorem fw {α:Type}:∀ (l:List α) {k:List α->Prop},jh l k->k l
 | [],_,h=>h
 | _::l,_,h=>fw l h
theorem ur:∀ (l:List Bool) {k:List Bool->Prop},JM l k->k l
 | [],_,h=>h
 | true::l,_,h=>ur l h
 | false::l,_,h=>ur l h
section
variable {ops:Array Oper}
theorem Ic:∀ {k:Nat} {l:List Bool} {j:Nat},dU (Vk k l) j=true->j=k\/dU l j=true
 | 0,[],0,_=>.inl rfl
 | 0,[],j+1,h=>by simp [Vk,dU] at h
 | 0,_::r,0,_=>.inl rfl
 | 0,_::r,j+1,h=>.inr h
 | k+1,[],0,h=>by simp [Vk,dU] at h
 | k+1,[],j+1,h=>by
  rcases Ic (k:=k) (l:=[]) h with e| e;exact .inl (by rw [e]);simp [dU] at e
 | k+1,a::r,0,h=>.inr h
 | k+1,a::r,j+1,h=>by
  rcases Ic (k:=k) (l:=r) h with e| e;exact .inl (by rw [e]);exact .inr e
theorem Zm:∀ {a b:List Bool} {j:Nat},dU (orB a b) j=true->dU a j=true\/dU b j=true
 | [],_,_,h=>.inr h
 | _::_,[],_,h=>.inl h
 | a::r,b::q,0,h=>by simpa [orB,dU] using h
 | a::r,b::q,j+1,h=>Zm (a:=r) (b:=q) h
theorem Ip {acc:List (List Bool)} {i:Nat}:∀ {l:List Edge},dU (Vz acc l) i=true->∃ e∈l,Region.binds .any e=true/\(e.on=i\/dU (ln acc e.on) i=true)
 | [],h=>by simp [Vz,dU] at h
 | e::r,h=>by
  unfold Vz at h;split at h
  .rename_i hb;rcases Zm h with h| h
   .rcases Ic h with h| h
    .exact ⟨e,aN ..,hb,.inl h.symm⟩
    .exact ⟨e,aN ..,hb,.inr h⟩
   .obtain ⟨e',h1,h2⟩:=Ip h;exact ⟨e',aI _ h1,h2⟩
  .obtain ⟨e',h1,h2⟩:=Ip h;exact ⟨e',aI _ h1,h2⟩
theorem Jo:∀ {l:List (List Bool)} {i:Nat},ln l i=(l[i]?).getD []
 | [],_=>by simp [ln]
 | _::_,0=>rfl
 | _::r,i+1=>by simp [ln,Jo (l:=r)]
theorem Jp:∀ {l:List Bool} {i:Nat},dU l i=(l[i]?).getD false
 | [],_=>by simp [dU]
 | _::_,0=>rfl
 | _::r,i+1=>by simp [dU,Jp (l:=r)]
theorem MD:∀ {r:List Oper} {acc:List (List Bool)} {k:List (List Bool)->Prop},YW r acc k->(∀ j,r[j]?=ops[acc.length+j]?)->(∀ j i,dU (ln acc j) i=true->tO ops j i)->∃ ms,k ms/\∀ j i,dU (ln ms j) i=true->tO ops j i
 | [],acc,k,h,_,hw=>⟨acc,h,hw⟩
 | o::r,acc,k,h,hr,hw=>by
  have h1:=fw _ (ur _ h);refine MD h1 (λj=>?_) λj i hj=>?_
  .have:=hr (j+1);simp only [List.getElem?_cons_succ] at this;rw [this,af,aE];congr 1;omega
  .rw [Jo] at hj;by_cases fB:j< acc.length
   .rw [bF fB,<-Jo] at hj;exact hw j i hj
   .by_cases he:j=acc.length
    .subst he;rw [bD (aG _)] at hj;simp only [Nat.sub_self,List.getElem?_cons_zero,Option.getD_some] at hj;obtain ⟨e,h2,h3,h4⟩:=Ip hj;have ho:ops[acc.length]?=some o:=by have:=hr 0;simpa using this.symm
     have key:∀ f,(e.on=i\/reach ops f e.on i=true)->reach ops (f+1) acc.length i=true:=λf hf=>by
      unfold reach;rw [ho];simp only [Array.any_eq_true'];refine ⟨e,by simpa using h2,?_⟩;simp only [ao,kq];exact ⟨h3,hf.imp (λh=>by simpa using h) id⟩
     rcases h4 with h4| h4;exact ⟨1,key 0 (.inl h4)⟩
     .obtain ⟨f,hf⟩:=hw _ _ h4;exact ⟨f+1,key f (.inr hf)⟩
    .rw [gU (by simp;omega)] at hj;simp [dU] at hj
theorem DV {pu:List Bool} {ms:List (List Bool)}:∀ {l dn:List Nat},Bg pu ms dn l=true->∀ (d:List Nat) (i:Nat) (r:List Nat),d++i::r=l->∀ j,j∈dn\/j∈d->dU pu j=false->dU (ln ms i) j=true
 | [],dn,_,d,i,r,he,_,_,_=>by simp at he
 | x::l,dn,h,d,i,r,he,j,hj,hp=>by
  unfold Bg at h;simp only [ao] at h;cases d with
  | nil=>
   simp only [gS,List.cons.injEq] at he;obtain ⟨rfl,rfl⟩:=he;rcases hj with hj| hj
   .have:=bo.1 h.1 j hj;rw [hp] at this;simpa using this
   .cases hj
  | cons y d=>
   simp only [eH,List.cons.injEq] at he;obtain ⟨rfl,he⟩:=he;refine DV h.2 d i r he j ?_ hp;rcases hj with hj| hj;exact .inl (aI _ hj)
   .rcases bm.1 hj with rfl| hj
    .exact .inl (aN ..)
    .exact .inr hj
theorem Dd {k t:Nat} {o:Oper} (ho:ops[k]?=some o):isDst ops k t=true↔o.dst=some t:=by
 unfold isDst aax;rw [ho];simp only [Option.bind_some];cases hd:o.dst with
 | none=>simp
 | some d=>simp
theorem zS {pu:List Bool} {ms:List (List Bool)} (h:B5 ops pu ms=true) {i k:Nat} {oi ok:Oper} {d:Nat} (hi:ops[i]?=some oi) (hk:ops[k]?=some ok) (hd:ok.dst=some d) (hm:d∈slotsOf ops oi):dU (ln ms i) k=true\/dU pu k=false:=by
 have h1:=bo.1 h i (dF.2 (aO.1 hi).1);simp only [hi] at h1;have h2:=bo.1 (bo.1 h1 d hm) k (dF.2 (aO.1 hk).1);rw [(Dd hk).2 hd] at h2;simpa using h2
theorem oL {pu:List Bool} {ms:List (List Bool)}:∀ {l:List Nat},uk ops pu ms l=true->∀ (d:List Nat) (i:Nat) (r:List Nat),d++i::r=l->dU pu i=true->∀ (o:Oper),ops[i]?=some o->∀ t∈slotsOf ops o,o.dst≠some t/\∀ k∈r,∀ ok,ops[k]?=some ok->(dU pu k=true\/dU (ln ms k) i=false)->ok.dst≠some t
 | [],_,d,i,r,he,_,_,_,_,_=>by simp at he
 | x::l,h,d,i,r,he,hp,o,ho,t,ht=>by
  unfold uk at h;simp only [ao] at h;cases d with
  | nil=>
   simp only [gS,List.cons.injEq] at he;obtain ⟨rfl,rfl⟩:=he;have h1:=h.1;rw [hp,ho] at h1;simp only [Bool.not_true,eW] at h1;have h2:=bo.1 h1 t ht;simp only [ao,cY] at h2;refine ⟨λe=>?_,λk hk ok sa hor e=>?_⟩;rw [(Dd ho).2 e] at h2;cases h2.1
   .have h3:=bo.1 h2.2 k hk;rw [(Dd sa).2 e] at h3;rcases hor with hor| hor<;>rw [hor] at h3<;>simp at h3
  | cons y d=>
   simp only [eH,List.cons.injEq] at he;obtain ⟨rfl,he⟩:=he;exact oL h.2 d i r he hp o ho t ht
end
section
variable {X:Vx} {n:Nat} {W:cV} {F:List Atom} {b:Bs} {E:Env} {g w:World} {s s':Ov} {a:Act} {o:Oper} {ops:Array Oper}
structure Eqv (b:Bs) (s s':Ov):Prop where
 slot:∀ t,b.slot s' t=b.slot s t
 h:s'.h=s.h
 n:s'.n=s.n
theorem Eqv.refl:Eqv b s s:=⟨λ_=>rfl,rfl,rfl⟩
theorem Eqv.obj (e:Eqv b s s') (l:Nat):b.obj s' l=b.obj s l:=by unfold Bs.obj;rw [e.h]
theorem df.eqv (S:df n W F b E g w s a) (e:Eqv b s s'):df n W F b E g w s' a:=by
 refine ⟨S.size,S.defers,λt v hv=>S.fr t v (by rw [<-e.slot];exact hv),?_,λl hl=>by rw [e.obj];exact S.top l (by rw [<-e.n];exact hl)⟩;have:b.heap s'=b.heap s:=by
  unfold Bs.heap;rw [e.n];exact jy λl _=>e.obj l
 rw [this];exact S.sat
theorem TE {d:Nat} {v:SV} (h:b.slot s d=some v):Eqv b s (s.put (some d) v):=by
 refine ⟨λt=>?_,rfl,rfl⟩;rw [mG];split
 .rename_i e;subst e;exact h.symm
 .rfl
def oY (ops:Array Oper) (b:Bs) (s:Ov) (o:Oper) (q:Bool):Prop:=match o.guard with
 | none=>q=true
 | some (j,wt)=>∃ d,(ops[j]?).bind (·.dst)=some d/\((∃ v,b.slot s d=some (.v (.c (.k (.bool v))))/\q=(v==wt))\/((∃ l,b.slot s d=some (.cC l))/\q=false))
theorem Kt {K:Bool->Ov->Prop} (h:EM ops b s o K):∃ q s',oY ops b s o q/\Eqv b s s'/\K q s':=by
 unfold EM at h;unfold oY;split at h
 .rename_i hg;exact ⟨true,s,by rw [hg],Eqv.refl,h⟩
 .rename_i j wt hg;split at h
  .cases h
  .rename_i d hd;split at h
   .rename_i v hv;rcases tH h with ⟨e,h⟩| ⟨e,h⟩<;>subst e
    .exact ⟨_,_,by rw [hg];exact ⟨d,hd,.inl ⟨_,hv,rfl⟩⟩,TE hv,h⟩
    .exact ⟨_,_,by rw [hg];exact ⟨d,hd,.inl ⟨_,hv,rfl⟩⟩,TE hv,h⟩
   .rename_i l hv;exact ⟨_,_,by rw [hg];exact ⟨d,hd,.inr ⟨⟨l,hv⟩,rfl⟩⟩,Eqv.refl,h⟩
   .cases h
theorem oY.sem {q:Bool} (S:df n W F b E g w s a) (h:oY ops b s o q):Region.wanted o (yielded ops a.tmps)=q:=by
 unfold oY at h;split at h
 .rename_i hg;unfold Region.wanted;rw [hg,h]
 .rename_i j wt hg;obtain ⟨d,hd,h⟩:=h;unfold Region.wanted;rw [hg];simp only;unfold yielded;rw [hd];rcases h with ⟨v,hv,e⟩| ⟨⟨l,hv⟩,e⟩
  .obtain ⟨hx,_⟩:=S.fr d _ hv;subst e;have:(a.tmps[d]?).getD undef= .bool v:=by rw [<-kr];exact hx
   cases hq:a.tmps[d]? with
   | none=>rw [hq] at this;simp [undef] at this
   | some y=>rw [hq] at this;simp at this;subst this;cases v<;>cases wt<;>simp [hq]
  .obtain ⟨us,_,hx⟩:=S.fr d _ hv;subst e;have:(a.tmps[d]?).getD undef= .tuple us.toArray:=by rw [<-kr];exact hx
   cases hq:a.tmps[d]? with
   | none=>simp [hq]
   | some y=>rw [hq] at this;simp at this;subst this;simp [hq]
theorem oY.congr {q:Bool} (hs:∀ t∈slotsOf ops o,b.slot s t=b.slot s' t) (h:oY ops b s o q):oY ops b s' o q:=by
 unfold oY at h ⊢;split at h;exact h
 .rename_i j wt hg;obtain ⟨d,hd,h⟩:=h;have:=hs d (List.mem_append_right _ (by rw [hg];simp [hd]));rw [this] at h;exact ⟨d,hd,h⟩
theorem yQ (hs:∀ t∈slotsOf ops o,b.slot s t=b.slot s' t) {x:Operand} (hx:x∈o.op.operands.toList):fe b s x=fe b s' x:=by
 cases x with
 | tmp t=>exact hs t (bW _ (List.mem_filterMap.2 ⟨.tmp t,hx,rfl⟩))
 | const _=>rfl
 | func _=>rfl
 | global _=>rfl
theorem OO.of (hs:∀ t∈slotsOf ops o,b.slot s t=b.slot s' t) (hr:∀ l∈MN b s o,b.obj s l=b.obj s' l):OO b s s' o:=
 ⟨λx hx=>yQ hs hx,λx hx v hv l hl=>hr l (List.mem_flatMap.2 ⟨x,hx,by rw [hv];exact hl⟩)⟩
theorem MM (hs:∀ t∈slotsOf ops o,b.slot s t=b.slot s' t):MN b s o=MN b s' o:=by
 unfold MN;have:∀ l:List Operand,(∀ x∈l,x∈o.op.operands.toList)->l.flatMap (λx=>match fe b s x with
   | some v=>v.labels
   | none=>[])=l.flatMap (λx=>match fe b s' x with
   | some v=>v.labels
   | none=>[]):=by
  intro l
  induction l with
  | nil=>intro _;rfl
  | cons x r ih=>
   intro h;rw [pd,pd,ih λy hy=>h y (aI _ hy),yQ hs (h x (by simp))]
 exact this _ λx hx=>hx
theorem qH (hs:∀ t∈slotsOf ops o,b.slot s t=b.slot s' t):vr b s o=vr b s' o:=by
 unfold vr;split;rfl;rfl;exact MM hs
structure AQ (X:Vx) (n:Nat) (ops:Array Oper) (b:Bs) (s:Ov) (o:Oper) (d:Nat) (sv:SV):Prop where
 dst:o.dst=some d
 lt:d< n
 slot:b.slot s d=some sv
 pure:lE X.P o=true
 run:(oY ops b s o true/\LW X b s o λv _=>v=sv)\/(oY ops b s o false/\sv= .tV)
theorem AQ.jH {d:Nat} {sv:SV} (h:AQ X n ops b s o d sv) (hs:∀ t∈slotsOf ops o,b.slot s t=b.slot s' t) (hd:b.slot s' d=b.slot s d) (hr:∀ l∈vr b s o,b.obj s l=b.obj s' l):AQ X n ops b s' o d sv:=by
 refine ⟨h.dst,h.lt,by rw [hd];exact h.slot,h.pure,?_⟩;rcases h.run with ⟨h1,h2⟩| ⟨h1,h2⟩
 .refine .inl ⟨h1.congr hs,?_⟩;have mv:∀ {x:Operand},x∈o.op.operands.toList->qA b s x (λv=>v=sv)->qA b s' x (λv=>v=sv):=λ{x} hx q=>by
   unfold qA at q ⊢;rw [<-yQ hs hx];exact q
  unfold vr at hr;split at hr
  .rename_i x e;unfold LW at h2 ⊢;rw [e] at h2 ⊢;exact mv (by rw [e];simp [Op.operands]) h2
  .rename_i x e;unfold LW at h2 ⊢;rw [e] at h2 ⊢;exact mv (by rw [e];simp [Op.operands]) h2
  .exact LV h.pure (OO.of hs hr) h2
 .exact .inr ⟨h1.congr hs,h2⟩
theorem AQ.again {d:Nat} {sv:SV} (h:AQ X n ops b s o d sv) (S:df n W F b E g w s a):
  ∃ v,(Region.wanted o (yielded ops a.tmps)=true->(execOp a.eval o).run X.P w= .ok (.value v) w)/\(Region.wanted o (yielded ops a.tmps)=false->v=undef)/\df n W F b E g w s (a.put o.dst v):=by
 have back:∀ {v:Value},dd E g sv v->df n W F b E g w s (a.put o.dst v):=λ{v} r=>by
  have:=S.put (d:=some d) (by simpa using h.lt) r;rw [h.dst];refine this.eqv ⟨λt=>?_,rfl,rfl⟩;rw [mG];split
  .rename_i e;subst e;exact h.slot
  .rfl
 rcases h.run with ⟨h1,h2⟩| ⟨h1,h2⟩
 .obtain ⟨v,OR,r1,r2,rfl⟩:=Sm h.pure S h2;exact ⟨v,λ_=>r1,λq=>absurd q (by rw [h1.sem S];simp),back r2⟩
 .subst h2;exact ⟨undef,λq=>absurd q (by rw [h1.sem S];simp),λ_=>rfl,back jq⟩
theorem GC {K:Ov->Prop} (S:df n W F b E g w s a) (hp:lE X.P o=true) (amW:∀ t∈slotsOf ops o,o.dst≠some t) (h:U7 X n ops b s o K):
  ∃ d v sv s',df n W F b E g w s' (a.put o.dst v)/\K s'/\AQ X n ops b s' o d sv/\vr b s' o=vr b s o/\(∀ t,o.dst≠some t->b.slot s' t=b.slot s t)/\∀ l,b.obj s' l=b.obj s l:=by
 unfold U7 at h;obtain ⟨hd0,h⟩:=dc h;obtain ⟨d,hd⟩:∃ d,o.dst=some d:=by
  unfold lE at hp;simp only [ao] at hp;exact mS.1 hp.1
 have hdn:d< n:=by rw [hd] at hd0;simpa using hd0
 obtain ⟨q,s1,hq,he,h⟩:=Kt h;have S1:=S.eqv he;have ja:∀ t∈slotsOf ops o,d≠t:=λt ht e=>amW t ht (by rw [hd,e]);have jL:∀ (sv:SV),∀ t,d≠t->b.slot (s1.put (some d) sv) t=b.slot s t:=λsv t ht=>by rw [mG,if_neg ht,he.slot]
 have hs1:∀ (sv:SV),∀ t∈slotsOf ops o,b.slot s1 t=b.slot (s1.put (some d) sv) t:=λsv t ht=>by rw [jL sv t (ja t ht),he.slot]
 have hs0:∀ (sv:SV),∀ t∈slotsOf ops o,b.slot s t=b.slot (s1.put (some d) sv) t:=λsv t ht=>by rw [jL sv t (ja t ht)]
 cases q with
 | true=>
  simp only at h;rw [aiN hp] at h;obtain ⟨v,sv,r1,r2,k,h2⟩:=Sm hp S1 ((ad0 hp).det h);rw [hd] at k ⊢;refine ⟨d,v,sv,_,S1.put (by simpa using hdn) r2,k,⟨hd,hdn,by rw [mG,if_pos rfl],hp,.inl ⟨hq.congr (hs0 sv),LV hp (OO.of (hs1 sv) λl _=>rfl) h2⟩⟩,(qH (hs0 sv)).symm,λt ht=>jL sv t λe=>ht (by rw [e]),λl=>he.obj l⟩
 | false=>
  simp only at h;rw [hd] at h ⊢;refine ⟨d,undef,.tV,_,S1.put (by simpa using hdn) jq,h,⟨hd,hdn,by rw [mG,if_pos rfl],hp,.inr ⟨hq.congr (hs0 _),rfl⟩⟩,(qH (hs0 _)).symm,λt ht=>jL _ t λe=>ht (by rw [e]),λl=>he.obj l⟩
end
section
variable {X:Vx} {n:Nat} {W:cV} {F:List Atom} {b:Bs} {E:Env} {g w:World} {s s':Ov} {a:Act} {o:Oper} {ops:Array Oper}
theorem mr:∀ {l m:Ay} {t:Nat},gg (l++m) t=match gg l t with
  | some v=>some v
  | none=>gg m t
 | [],_,_=>rfl
 | (k,v)::r,m,t=>by
  simp only [eH,gg];cases Nat.beq k t with
  | true=>rfl
  | false=>exact mr (l:=r)
theorem n5:∀ {l m:List (Nat×HO)} {t:Nat},gF (l++m) t=match gF l t with
  | some v=>some v
  | none=>gF m t
 | [],_,_=>rfl
 | (k,v)::r,m,t=>by
  simp only [eH,gF];cases Nat.beq k t with
  | true=>rfl
  | false=>exact n5 (l:=r)
theorem vQ:∀ {l:List (Nat×HO)} {t:Nat},t ∉ l.map (·.1)->gF l t=none
 | [],_,_=>rfl
 | (k,v)::r,t,h=>by
  simp only [gF];have h1:¬k=t:=λe=>h (by simp [e]);rw [jk h1];exact vQ λq=>h (by simpa using .inr (by simpa using q))
theorem mI:∀ {l:List HO} {k:Nat} {o:HO},l[k]?=some o->lF l k=o
 | [],_,_,h=>by simp at h
 | x::r,0,o,h=>by simpa [lF] using h
 | x::r,k+1,o,h=>mI (l:=r) (by simpa using h)
theorem nZ:∀ {l:List HO} {k:Nat},l.length<=k->lF l k= .gone
 | [],_,_=>rfl
 | x::r,0,h=>by simp at h
 | x::r,k+1,h=>nZ (l:=r) (by simpa using h)
def Bs.Ke (b:Bs) (s:Ov):Bs:= {f:=s.f++b.f,h:=b.heap s}
theorem HI {s2:Ov} (h:s2.f= []) (t:Nat):(b.Ke s).slot s2 t=b.slot s t:=by
 unfold Bs.slot Bs.Ke;rw [h];exact mr
theorem yS (h:∀ l,s.n<=l->b.obj s l= .gone) (l:Nat):lF (b.heap s) l=b.obj s l:=by
 by_cases hl:l< s.n;exact mI (eL hl);rw [nZ (by rw [dW];omega),h l (by omega)]
theorem DS {s2 s3:Ov} (h:∀ l,s.n<=l->b.obj s l= .gone) (h3:s3.h=s2.h++s.h) (l:Nat):(b.Ke s).obj s2 l=b.obj s3 l:=by
 unfold Bs.obj;rw [h3,n5];show (match gF s2.h l with| some o=>o| none=>lF (b.heap s) l)=_
 cases gF s2.h l with
 | some o=>rfl
 | none=>exact yS h l
theorem HJ {s2 s3:Ov} (h:∀ l,s.n<=l->b.obj s l= .gone) (h3:s3.h=s2.h++s.h) (hn:s3.n=s2.n):(b.Ke s).heap s2=b.heap s3:=by
 unfold Bs.heap;rw [hn];exact jy λl _=>DS h h3 l
theorem df.Ke (S:df n W F b E g w s a):df n W F (b.Ke s) E g w {f:=[],h:=[],n:=s.n} a:=by
 refine ⟨S.size,S.defers,λt v hv=>S.fr t v (by rw [<-HI (s2:= {f:=[],h:=[],n:=s.n}) rfl];exact hv),?_,λl hl=>?_⟩;rw [HJ (s2:= {f:=[],h:=[],n:=s.n}) (s3:=s) S.top rfl rfl];exact S.sat
 .rw [DS (s2:= {f:=[],h:=[],n:=s.n}) (s3:=s) S.top rfl];exact S.top l hl
theorem df.merged {E':Env} {g' w':World} {s2:Ov} (top:∀ l,s.n<=l->b.obj s l= .gone) (hf:s2.f= []) (S:df n W F (b.Ke s) E' g' w' s2 a):df n W F b E' g' w' {f:=s.f,h:=s2.h++s.h,n:=s2.n} a:=by
 refine ⟨S.size,S.defers,λt v hv=>S.fr t v (by rw [HI hf];exact hv),?_,λl hl=>?_⟩;rw [<-HJ (s2:=s2) (s3:= {f:=s.f,h:=s2.h++s.h,n:=s2.n}) top rfl rfl];exact S.sat
 .rw [<-DS (s2:=s2) (s3:= {f:=s.f,h:=s2.h++s.h,n:=s2.n}) top rfl];exact S.top l hl
structure aoj (b:Bs) (s s':Ov) (d:Option Nat) (ks:List Nat):Prop where
 slot:∀ t,d≠some t->b.slot s' t=b.slot s t
 obj:∀ l,l ∉ ks->b.obj s' l=b.obj s l
theorem Gc {d:Option Nat} {v:SV} {t:Nat} (h:d≠some t):b.slot (s.put d v) t=b.slot s t:=by
 cases d with
 | none=>rfl
 | some d=>rw [mG,if_neg λe=>h (by rw [e])]
theorem S6 {d:Option Nat} {v:SV} {l:Nat}:b.obj (s.put d v) l=b.obj s l:=by cases d<;>rfl
def acX (n:Nat) (W:cV) (F:List Atom) (b:Bs) (E:Env) (g:World) (s:Ov) (d:Option Nat) (K:Ov->List Nat->Prop) (a':Act) (w':World):Prop:=∃ E' g' s' ks,bu E E'/\bt g g'/\df n W F b E' g' w' s' a'/\K s' ks/\aoj b s s' d ks
theorem Nb (kf:jv W X.P X.ct) {K:Ov->List Nat->Prop} (S:df n W F b E g w s a) (h:ad3 X n ops b s o K):
  (Region.wanted o (yielded ops a.tmps)=true/\k7 X.P o a w λv w'=>acX n W F b E g s o.dst K (a.put o.dst v) w')\/(Region.wanted o (yielded ops a.tmps)=false/\acX n W F b E g s o.dst K (a.put o.dst undef) w):=by
 unfold ad3 at h;obtain ⟨hd,h⟩:=dc h;obtain ⟨q,s1,hq,he,h⟩:=Kt h;have S1:=S.eqv he;cases q with
 | true=>
  refine .inl ⟨hq.sem S,?_⟩;have hr:=Yv kf S1.Ke h;have key:∀ v w',Out n W F (b.Ke s1) E g a (λv s'=>match s'.f with
    | []=>K (({f:=s1.f,h:=s'.h++s1.h,n:=s'.n}:Ov).put o.dst v) (s'.h.map (·.1))
    | _=>False) v w'->acX n W F b E g s o.dst K (a.put o.dst v) w':=by
   rintro v w' ⟨E',g',s2,sv,h1,h2,S2,r,k⟩;split at k
   .rename_i hf;refine ⟨E',g',_,_,h1,h2,(S2.merged S1.top hf).put hd r,k,λt ht=>?_,λl hl=>?_⟩
    .rw [Gc ht];exact he.slot t
    .rw [S6,<-he.obj];unfold Bs.obj;rw [n5,vQ hl]
   .exact k.elim
  rcases hr with ⟨v,w',hr,h⟩| ⟨w',hr,h⟩| ⟨f,args,hr,h⟩;exact .inl ⟨v,w',hr,key v w' h⟩;exact .inr (.inl ⟨w',hr,key undef w' h⟩);exact .inr (.inr ⟨f,args,hr,h.mono key⟩)
 | false=>exact .inr ⟨hq.sem S,E,g,_,_,bu.refl E,bt.refl g,S1.put hd jq,h,λt ht=>by rw [Gc ht,he.slot],λl _=>by rw [S6,he.obj]⟩
def UG (X:Vx) (n:Nat) (W:cV) (F:List Atom) (b:Bs) (E:Env) (g:World) (ops:Array Oper) (ms:List (List Bool)) (pu:List Bool) (ord:List Nat) (K:Ov->Prop) (dn rest:List Nat) (c:Act) (w':World):Prop:=
 dn++rest=ord/\∃ E' g' s lv,bu E E'/\bt g g'/\df n W F b E' g' w' s c/\BQ X n ops b ms pu rest lv s K/\
  (∀ p∈lv,p.1∈dn/\dU pu p.1=true/\∃ o d sv,ops[p.1]?=some o/\AQ X n ops b s o d sv/\vr b s o=p.2)/\
  ∀ i∈dn,dU pu i=true->(∀ j∈dn,dU pu j=false->¬tO ops j i)->∃ p∈lv,p.1=i
theorem rn:∀ (l:List (List Nat)) {k:List (List Nat)->Prop},rp l k->k l
 | [],_,h=>h
 | _::l,_,h=>rn l (fw _ h)
theorem ri:∀ {os:List (List Nat)} {i:Nat} {r:List Nat},i::r∈os->i∈vW os
 | [],_,_,h=>by cases h
 | []::os,i,r,h=>by
  rcases bm.1 h with h| h;cases h;exact ri (os:=os) h
 | (x::q)::os,i,r,h=>by
  unfold vW;rcases bm.1 h with h| h
  .injection h with h1 h2;subst h1;split
   .rename_i hm;exact gz.1 hm
   .exact aN ..
  .have:=ri (os:=os) h;split
   .exact this
   .exact aI _ this
theorem qE:∀ {os:List (List Nat)} {i:Nat} {r:List Nat},i::r∈os->r∈sm i os
 | [],_,_,h=>by cases h
 | []::os,i,r,h=>by
  rcases bm.1 h with h| h;cases h;exact qE (os:=os) h
 | (x::q)::os,i,r,h=>by
  unfold sm;rcases bm.1 h with h| h
  .injection h with h1 h2;subst h1 h2;rw [Nat.beq_refl];exact aN ..
  .have:=qE (os:=os) h;split
   .exact aI _ this
   .exact this
theorem DU {p:Nat->Prop}:∀ {l:List Nat} {i:Nat},akW l p->i∈l->p i
 | [],_,_,h=>by cases h
 | [x],i,h,hi=>by
  obtain rfl:i=x:=by simpa using hi
  exact h
 | x::y::r,i,⟨h1,h2⟩,hi=>by
  rcases bm.1 hi with rfl| hi;exact h1;exact DU (l:=y::r) h2 hi
theorem aeE {ms:List (List Bool)} {np dn:List Nat} {i:Nat} (h:∀ j∈np,dU (ln ms i) j=true->j∈dn):VN ms np dn i=true:=bo.2 λj hj=>by
 cases hb:dU (ln ms i) j with
 | false=>rfl
 | true=>rw [gz.2 (h j hj hb)];rfl
theorem vZ {pu:List Bool}:∀ {l:List Nat} {i:Nat},rq pu l i=true->∃ r1 r2,l=r1++i::r2/\∀ j∈r1,dU pu j=true
 | [],_,h=>by cases h
 | x::r,i,h=>by
  unfold rq at h;rcases Bool.or_eq_true_iff.1 h with h| h;exact ⟨[],r,by rw [ai h];rfl,λ_ hj=>by cases hj⟩
  .obtain ⟨h1,h2⟩:=Bool.and_eq_true_iff.1 h;obtain ⟨r1,r2,e,hp⟩:=vZ h2;refine ⟨x::r1,r2,by rw [e];rfl,λj hj=>?_⟩;rcases bm.1 hj with rfl| hj
   .exact h1
   .exact hp j hj
theorem Ga:∀ {l r q:List Nat},BX l r=some q->l++q=r
 | [],r,q,h=>(aj h).symm
 | _::_,[],_,h=>by cases h
 | a::l,b::r,q,h=>by
  unfold BX at h;cases hb:Nat.beq a b with
  | false=>rw [hb] at h;cases h
  | true=>
   rw [hb] at h;have h:BX l r=some q:=h;rw [<-Ga h,ai hb];rfl
theorem Dw {pu:List Bool} {ms:List (List Bool)} {np:List Nat} {os:List (List Nat)}:∀ {l d0:List Nat},xw pu ms np os d0 l=true->∀ (d:List Nat) (rest:List Nat),d++rest=l->∀ i∈rest,VN ms np (d0++d) i=true->rq pu rest i=true\/∃ q,(d0++d)++q∈os/\rq pu q i=true
 | [],d0,_,d,rest,e,i,hi,_=>by
  have:=(List.append_eq_nil_iff.1 e).2;rw [this] at hi;cases hi
 | x::l,d0,h,d,rest,e,i,hi,hn=>by
  unfold xw at h;obtain ⟨h1,h2⟩:=Bool.and_eq_true_iff.1 h;cases d with
  | nil=>
   have e:rest=x::l:=e;subst e;rw [bf] at hn ⊢;have h3:=bo.1 h1 i hi;rw [hn] at h3;rcases Bool.or_eq_true_iff.1 h3 with h3| h3;exact .inl h3
   .rw [Bool.not_true,eW] at h3;obtain ⟨o,ho,h4⟩:=List.any_eq_true.1 h3;split at h4
    .rename_i q hq;exact .inr ⟨q,by rw [Ga hq];exact ho,h4⟩
    .cases h4
  | cons y d=>
   injection e with e1 e2;subst e1;have:=Dw (l:=l) (d0:=d0++ [y]) h2 d rest e2 i hi (by simpa using hn);simpa using this
def Uy (X:Vx) (n:Nat) (W:cV) (F:List Atom) (b:Bs) (E:Env) (g:World) (ops:Array Oper) (ms:List (List Bool)) (pu:List Bool) (ords:List (List Nat)) (K:Ov->Prop) (dn rest:List Nat) (c:Act) (w':World):Prop:=
 dn++rest∈ords/\∃ E' g' s lv os,bu E E'/\bt g g'/\df n W F b E' g' w' s c/\F7 X n ops b ms pu rest.length os lv s K/\(∀ r,dn++r∈ords->r∈os)/\
  (∀ p∈lv,p.1∈dn/\dU pu p.1=true/\∃ o d sv,ops[p.1]?=some o/\AQ X n ops b s o d sv/\vr b s o=p.2)/\
  ∀ i∈dn,dU pu i=true->(∀ j∈dn,dU pu j=false->¬tO ops j i)->∃ p∈lv,p.1=i
theorem ad7 {ro:Option Nat} {m:Nat} (kf:jv W X.P X.ct) {K:Ov->Prop} {Q:Exit->Act->World->Prop} {id:Nat} {ms:List (List Bool)} {pu:List Bool} (S:df n W F b E g w s a) (hm:X.P.follows .mixedOrders=true) (hE:JQ ops=true) (hD:QE ops n=true) (hpu:(bQ ops.size).map (vL X.P ops)=pu) (hms:∀ j i,dU (ln ms j) i=true->tO ops j i)
  (h:jh ((bQ ops.size).filter λi=> !dU pu i) λnp=>rp (Kf pu ms np ops.size ops.size []) λos=>if Q3 ops pu ms np os then F7 X n ops b ms pu ops.size os [] s K else False) (k:∀ a' w',Step n W F b E g K a' w'->Q .normal a' w'):(Code.region id ops true).wpIn (Ei ro) m X.P Q a w:=by
 have h:=fw _ h;generalize hnp:(bQ ops.size).filter (λi=> !dU pu i)=np at h;have h:=rn _ h;generalize Kf pu ms np ops.size ops.size []=ords at h;obtain ⟨ho,h⟩:=dc h;unfold Q3 at ho;simp only [ao] at ho;obtain ⟨h5,ja,jI⟩:=ho;have jI:=λord hm=>bo.1 jI ord hm;simp only [ao] at jI;have hnd:∀ ord,ord∈ords->ord.Nodup:=λord hm=>jU.1 (jI ord hm).1;have Eu:∀ ord,ord∈ords->∀ i,i∈ord↔i< ops.size:=λord hm i=>⟨λhi=>by simpa using bo.1 (jI ord hm).2.1 i hi,λhi=>gz.1 (bo.1 (jI ord hm).2.2.1 i (dF.2 hi))⟩;have h6:∀ ord,ord∈ords->uk ops pu ms ord=true:=λord hm=>(jI ord hm).2.2.2.1;have Qq:∀ ord,ord∈ords->xw pu ms np ords [] ord=true:=λord hm=>(jI ord hm).2.2.2.2;have NC:∀ (i:Nat) (o:Oper),ops[i]?=some o->dU pu i=true->lE X.P o=true:=λi o hi hp=>by
  rw [<-hpu,Jp,dj,List.getElem?_range (aO.1 hi).1] at hp;have hp:vL X.P ops i=true:=hp;unfold vL at hp;rw [hi] at hp;simp only [ao] at hp;exact hp.1
 have dne:∀ (i j:Nat) (oi oj:Oper) (d:Nat),ops[i]?=some oi->ops[j]?=some oj->oi.dst=some d->oj.dst=some d->i=j:=by
  have Wi:∀ (i j:Nat) (oi oj:Oper) (d:Nat),j< i->ops[i]?=some oi->ops[j]?=some oj->oi.dst=some d->oj.dst=some d->False:=λi j oi oj d Kp hi hj Qp Wb=>by
   have r8:i< ops.size:=(aO.1 hi).1;have h1:=bo.1 hD i (dF.2 r8);simp only [hi,Option.bind_some,Qp,ao] at h1;have h2:=bo.1 h1.2 j (dF.2 Kp);simp [hj,Wb] at h2
  intro i j oi oj d hi hj Qp Wb;rcases Nat.lt_trichotomy i j with h| h| h;exact (Wi j i oj oi d h hj hi Wb Qp).elim;exact h;exact (Wi i j oi oj d h hi hj Qp Wb).elim
 have stands:∀ {dn rest:List Nat} {i:Nat} {o:Oper} {s1 s2:Ov},dn++i::rest∈ords->ops[i]?=some o->(∀ t,o.dst≠some t->b.slot s2 t=b.slot s1 t)->∀ (p:Nat×List Nat),p.1∈dn->dU pu p.1=true->(∀ l∈p.2,b.obj s2 l=b.obj s1 l)->(dU pu i=true\/dU (ln ms i) p.1=false)->
   (∃ o d sv,ops[p.1]?=some o/\AQ X n ops b s1 o d sv/\vr b s1 o=p.2)->∃ o d sv,ops[p.1]?=some o/\AQ X n ops b s2 o d sv/\vr b s2 o=p.2:=by
  rintro dn rest i o s1 s2 he hi Eg p hpd hpp eD hor ⟨op,d,sv,q1,q2,q3⟩;obtain ⟨d1,d2,hdd⟩:=List.append_of_mem hpd;have hl:=oL (h6 _ he) d1 p.1 (d2++i::rest) (by rw [hdd];simp) hpp op q1;have hs:∀ t∈slotsOf ops op,b.slot s1 t=b.slot s2 t:=λt ht=>(Eg t ((hl t ht).2 i (by simp) o hi hor)).symm;have ja:p.1≠i:=λe=>by
   have:=hnd _ he;rw [gv] at this;exact this.2.2 p.1 hpd i (by simp) e
  have hdd:b.slot s2 d=b.slot s1 d:=Eg d λe=>ja (dne p.1 i op o d q1 hi q2.dst e);exact ⟨op,d,sv,q1,q2.jH hs hdd (λl hl=>(eD l (by rw [<-q3];exact hl)).symm),by rw [<-qH hs];exact q3⟩
 have h5o:∀ dn rest c w' i,Uy X n W F b E g ops ms pu ords K dn rest c w'->dn++rest∈ords->i∈rest->(∀ j,tO ops i j->dU pu j=false->j∈dn)->∃ r1 r2,dn++(r1++i::r2)∈ords/\Uy X n W F b E g ops ms pu ords K dn (r1++i::r2) c w'/\∀ j∈r1,dU pu j=true:=λdn rest c w' i hT he hir hw=>by
  have apK:VN ms np dn i=true:=aeE λj hj hb=>hw j (hms i j hb) (by
   rw [<-hnp] at hj;simpa using (gk.1 hj).2)
  have len:∀ q,dn++q∈ords->q.length=rest.length:=λq hq=>by
   have p1:=(List.perm_ext_iff_of_nodup (hnd _ he) (hnd _ hq)).2 λx=>(Eu _ he x).trans (Eu _ hq x).symm;have:=p1.length_eq;simp only [af] at this;omega
  rcases Dw (Qq _ he) dn rest rfl i hir (by simpa using apK) with h1| ⟨q,hq,h1⟩
  .obtain ⟨r1,r2,e,hp⟩:=vZ h1;subst e;exact ⟨r1,r2,he,hT,hp⟩
  .obtain ⟨r1,r2,e,hp⟩:=vZ h1;subst e;have hq:dn++(r1++i::r2)∈ords:=by simpa using hq
   obtain ⟨_,E',g',s1,lv,os,l1,l2,S1,hv,hos,Qn,jI⟩:=hT;rw [<-len _ hq] at hv;exact ⟨r1,r2,hq,⟨hq,E',g',s1,lv,os,l1,l2,S1,hv,hos,Qn,jI⟩,hp⟩
 obtain ⟨ord0,Tx⟩:∃ o,o∈ords:=by
  cases ords with
  | nil=>simp at ja
  | cons o _=>exact ⟨o,aN ..⟩
 have hl0:ord0.length=ops.size:=by
  have p1:=(List.perm_ext_iff_of_nodup (hnd _ Tx) List.nodup_range).2 λx=>(Eu _ Tx x).trans List.mem_range.symm;have:=p1.length_eq
  rwa [List.length_range] at this
 refine wpIn_region_any hm ?_;refine ahe (Ord:=λl=>l∈ords) (pu:=dU pu) (T:=Uy X n W F b E g ops ms pu ords K) hE hD hnd Eu h5o
  (λi k oi ok d hi hk hd hm=>(zS h5 hi hk hd hm).imp (hms i k) λq=>q)
  (λdn rest c w' ⟨_,E',g',s1,lv,_,_,_,S1,_⟩=>⟨S1.size,S1.defers⟩) ?_ ?_ ?_ ?_ ops.size _ a _ [] ord0 a ⟨by simpa using Tx,by simp,?_,S.size,S.defers,?_,λt _=>rfl,λi hi=>(by cases hi),?_⟩ ?_
 .rintro dn rest c w' i o ⟨he,E',g',s1,lv,os,l1,l2,S1,hv,hos,Qn,jI⟩ yY uo hi V6;obtain ⟨p,hp,rfl⟩:=jI i yY uo V6;obtain ⟨_,_,op,d,sv,q1,q2,q3⟩:=Qn p hp;rw [hi] at q1;obtain rfl:=aj q1;obtain ⟨v,v1,v2,v3⟩:=q2.again S1;exact ⟨v,v1,v2,he,E',g',s1,lv,os,l1,l2,v3,hv,hos,Qn,jI⟩
 .rintro dn i rest c w' o ⟨he,E',g',s1,lv,os,l1,l2,S1,hv,hos,Qn,jI⟩ uo hi;have hv:=DU (fw _ hv) (ri (hos _ he));simp only [hi,uo] at hv;obtain ⟨d,v,sv,s2,S2,hk,hid,V4,Eg,eD⟩:=GC S1 (NC i o hi uo) (λt ht=>(oL (h6 _ he) dn i rest rfl uo o hi t ht).1) hv;have hk:=rn _ hk;refine ⟨v,by simpa using he,E',g',s2,_,_,l1,l2,S2,hk,λr hr=>qE (hos _ (by simpa using hr)),λp hp=>?_,λj hj JG V6=>?_⟩
  .rcases bm.1 hp with rfl| hp
   .exact ⟨by simp,uo,o,d,sv,hi,hid,V4⟩
   .obtain ⟨p1,p2,p3⟩:=Qn p hp;exact ⟨bW _ p1,p2,stands he hi Eg p p1 p2 (λl _=>eD l) (.inl uo) p3⟩
  .rcases aV.1 hj with hj| hj
   .obtain ⟨p,hp,e⟩:=jI j hj JG λq hq hpq=>V6 q (bW _ hq) hpq;exact ⟨p,aI _ hp,e⟩
   .have Kp:j=i:=by simpa using hj
    exact ⟨_,aN ..,Kp.symm⟩
 .rintro dn i rest c w' o ⟨he,E',g',s1,lv,os,l1,l2,S1,hv,hos,Qn,jI⟩ uo hi;have hv:=DU (fw _ hv) (ri (hos _ he));simp only [hi,uo] at hv;have key:∀ a' w'',acX n W F b E' g' s1 o.dst (λs' ks=>jh (lv.filter λp=> !dU (ln ms i) p.1) λlv=>if lv.all (λp=>p.2.all λl=> !iA l ks) then rp (sm i os) (λos=>F7 X n ops b ms pu rest.length os lv s' K) else False) a' w''->Uy X n W F b E g ops ms pu ords K (dn++ [i]) rest a' w'':=by
   rintro a' w'' ⟨E2,g2,s2,ks,m1,m2,S2,hk,hal⟩;have hk:=fw _ hk;obtain ⟨hc,hk⟩:=dc hk;have hk:=rn _ hk;refine ⟨by simpa using he,E2,g2,s2,_,_,l1.trans m1,l2.trans m2,S2,hk,λr hr=>qE (hos _ (by simpa using hr)),λp hp=>?_,λj hj JG V6=>?_⟩
   .have Z6:=(gk.1 hp).1;obtain ⟨p1,p2,p3⟩:=Qn p Z6;have hw:dU (ln ms i) p.1=false:=by simpa using (gk.1 hp).2
    refine ⟨bW _ p1,p2,stands he hi hal.slot p p1 p2 (λl hl=>hal.obj l λhlk=>?_) (.inr hw) p3⟩;have:=bo.1 (bo.1 hc p hp) l hl;rw [gz.2 hlk] at this;cases this
   .have Ev:j∈dn:=by
     rcases aV.1 hj with h| h;exact h
     .have:j=i:=by simpa using h
      subst this;rw [uo] at JG;cases JG
    obtain ⟨p,hp,e⟩:=jI j Ev JG λq hq hpq=>V6 q (bW _ hq) hpq;refine ⟨p,gk.2 ⟨hp,?_⟩,e⟩;cases hb:dU (ln ms i) p.1 with
    | false=>rfl
    | true=>
     exfalso
     rw [e] at hb;exact V6 i (by simp) uo (hms i j hb)
  rcases Nb kf S1 hv with ⟨hw,hr⟩| ⟨hw,hr⟩
  .refine .inl ⟨hw,?_⟩;rcases hr with ⟨v,w2,hr,h⟩| ⟨w2,hr,h⟩| ⟨f,args,hr,h⟩
   .exact .inl ⟨v,w2,hr,key _ w2 h⟩
   .exact .inr (.inl ⟨w2,hr,key _ w2 h⟩)
   .exact .inr (.inr ⟨f,args,hr,h.mono λv w2 h=>key _ w2 h⟩)
  .exact .inr ⟨hw,key _ _ hr⟩
 .rintro dn c w' ⟨he,E',g',s1,lv,os,l1,l2,S1,hv,_⟩;exact k c w' ⟨E',g',s1,l1,l2,S1,hv⟩
 .intro j o hj hl;rw [tY] at hl;cases hl
 .exact ⟨by simpa using Tx,E,g,s,[],ords,bu.refl E,bt.refl g,S.le (Le.drew w),by rw [hl0];exact h,λr hr=>by simpa using hr,λp hp=>(by cases hp),λi hi=>(by cases hi)⟩
 .intro i hl;rw [tY] at hl;cases hl
 .simp;exact Nat.le_trans (List.length_filter_le _ _) (by simp)
theorem afi {ro:Option Nat} {m:Nat} (kf:jv W X.P X.ct) {K:Ov->Prop} {Q:Exit->Act->World->Prop} {id:Nat} (S:df n W F b E g w s a) (h:wB X n ops true b s K) (k:∀ a' w',Step n W F b E g K a' w'->Q .normal a' w'):(Code.region id ops true).wpIn (Ei ro) m X.P Q a w:=by
 unfold wB at h;rw [if_pos rfl] at h;obtain ⟨h0,h⟩:=dc h;simp only [ao] at h0;obtain ⟨⟨hm,hE⟩,hD⟩:=h0;have h:=ur _ h;obtain ⟨ms,h,hms⟩:=MD (ops:=ops) h (λj=>by simp) (λj i h=>by simp [ln,dU] at h);have h:=fw _ h;generalize hpu:(bQ ops.size).map (vL X.P ops)=pu at h;generalize hod:agv pu ms ops.size=ord at h;by_cases ho:Zk ops pu ms ord=true
 case neg=>
  rw [if_neg ho] at h;exact ad7 kf S hm hE hD hpu hms h k
 rw [if_pos ho] at h;unfold Zk at ho;simp only [ao] at ho;obtain ⟨⟨⟨⟨⟨h1,h2⟩,h3⟩,h4⟩,h5⟩,h6⟩:=ho;have hnd:ord.Nodup:=jU.1 h1;have Eu:∀ i,i∈ord↔i< ops.size:=λi=>⟨λhi=>by simpa using bo.1 h2 i hi,λhi=>gz.1 (bo.1 h3 i (dF.2 hi))⟩;have NC:∀ (i:Nat) (o:Oper),ops[i]?=some o->dU pu i=true->lE X.P o=true:=λi o hi hp=>by
  rw [<-hpu,Jp,dj,List.getElem?_range (aO.1 hi).1] at hp;have hp:vL X.P ops i=true:=hp;unfold vL at hp;rw [hi] at hp;simp only [ao] at hp;exact hp.1
 have dne:∀ (i j:Nat) (oi oj:Oper) (d:Nat),ops[i]?=some oi->ops[j]?=some oj->oi.dst=some d->oj.dst=some d->i=j:=by
  have Wi:∀ (i j:Nat) (oi oj:Oper) (d:Nat),j< i->ops[i]?=some oi->ops[j]?=some oj->oi.dst=some d->oj.dst=some d->False:=λi j oi oj d Kp hi hj Qp Wb=>by
   have r8:i< ops.size:=(aO.1 hi).1;have h1:=bo.1 hD i (dF.2 r8);simp only [hi,Option.bind_some,Qp,ao] at h1;have h2:=bo.1 h1.2 j (dF.2 Kp);simp [hj,Wb] at h2
  intro i j oi oj d hi hj Qp Wb;rcases Nat.lt_trichotomy i j with h| h| h;exact (Wi j i oj oi d h hj hi Wb Qp).elim;exact h;exact (Wi i j oi oj d h hi hj Qp Wb).elim
 -- what has come early stands while others are done
 have stands:∀ {dn rest:List Nat} {i:Nat} {o:Oper} {s1 s2:Ov},dn++i::rest=ord->ops[i]?=some o->(∀ t,o.dst≠some t->b.slot s2 t=b.slot s1 t)->∀ (p:Nat×List Nat),p.1∈dn->dU pu p.1=true->(∀ l∈p.2,b.obj s2 l=b.obj s1 l)->(dU pu i=true\/dU (ln ms i) p.1=false)->
   (∃ o d sv,ops[p.1]?=some o/\AQ X n ops b s1 o d sv/\vr b s1 o=p.2)->∃ o d sv,ops[p.1]?=some o/\AQ X n ops b s2 o d sv/\vr b s2 o=p.2:=by
  rintro dn rest i o s1 s2 he hi Eg p hpd hpp eD hor ⟨op,d,sv,q1,q2,q3⟩;obtain ⟨d1,d2,hdd⟩:=List.append_of_mem hpd;have hl:=oL h6 d1 p.1 (d2++i::rest) (by rw [<-he,hdd];simp) hpp op q1;have hs:∀ t∈slotsOf ops op,b.slot s1 t=b.slot s2 t:=λt ht=>(Eg t ((hl t ht).2 i (by simp) o hi hor)).symm;have ja:p.1≠i:=λe=>by
   have:=hnd;rw [<-he,gv] at this;exact this.2.2 p.1 hpd i (by simp) e
  have hdd:b.slot s2 d=b.slot s1 d:=Eg d λe=>ja (dne p.1 i op o d q1 hi q2.dst e);exact ⟨op,d,sv,q1,q2.jH hs hdd (λl hl=>(eD l (by rw [<-q3];exact hl)).symm),by rw [<-qH hs];exact q3⟩
 refine wpIn_region_any hm ?_;have h5o:∀ dn rest c w' i,UG X n W F b E g ops ms pu ord K dn rest c w'->dn++rest=ord->i∈rest->(∀ j,tO ops i j->dU pu j=false->j∈dn)->∃ r1 r2,dn++(r1++i::r2)=ord/\UG X n W F b E g ops ms pu ord K dn (r1++i::r2) c w'/\∀ j∈r1,dU pu j=true:=λdn rest c w' i hT he hir hw=>by
  obtain ⟨r1,r2,hr⟩:=List.append_of_mem hir;subst hr;refine ⟨r1,r2,he,hT,λj hj=>?_⟩;cases hp:dU pu j with
  | true=>rfl
  | false=>
   have h1:=hw j (hms i j (DV h4 (dn++r1) i r2 (by rw [<-he];simp) j (.inr (by simp [hj])) hp)) hp;have:=hnd;rw [<-he,gv] at this;exact (this.2.2 j h1 j (by simp [hj]) rfl).elim
 refine ahe (Ord:=λl=>l=ord) (pu:=dU pu) (T:=UG X n W F b E g ops ms pu ord K) hE hD (λl e=>by rw [e];exact hnd) (λl e i=>by rw [e];exact Eu i) h5o
  (λi k oi ok d hi hk hd hm=>(zS h5 hi hk hd hm).imp (hms i k) λq=>q)
  (λdn rest c w' ⟨_,E',g',s1,lv,_,_,S1,_⟩=>⟨S1.size,S1.defers⟩) ?_ ?_ ?_ ?_ ops.size _ a _ [] ord a ⟨rfl,by simp,?_,S.size,S.defers,?_,λt _=>rfl,λi hi=>(by cases hi),?_⟩ ?_
 .rintro dn rest c w' i o ⟨he,E',g',s1,lv,l1,l2,S1,hv,Qn,jI⟩ yY uo hi V6;obtain ⟨p,hp,rfl⟩:=jI i yY uo V6;obtain ⟨_,_,op,d,sv,q1,q2,q3⟩:=Qn p hp;rw [hi] at q1;obtain rfl:=aj q1;obtain ⟨v,v1,v2,v3⟩:=q2.again S1;exact ⟨v,v1,v2,he,E',g',s1,lv,l1,l2,v3,hv,Qn,jI⟩
 .rintro dn i rest c w' o ⟨he,E',g',s1,lv,l1,l2,S1,hv,Qn,jI⟩ uo hi;unfold BQ at hv;simp only [hi,uo] at hv;obtain ⟨d,v,sv,s2,S2,hk,hid,V4,Eg,eD⟩:=GC S1 (NC i o hi uo) (λt ht=>(oL h6 dn i rest he uo o hi t ht).1) hv;refine ⟨v,by rw [<-he];simp,E',g',s2,_,l1,l2,S2,hk,λp hp=>?_,λj hj JG V6=>?_⟩
  .rcases bm.1 hp with rfl| hp
   .exact ⟨by simp,uo,o,d,sv,hi,hid,V4⟩
   .obtain ⟨p1,p2,p3⟩:=Qn p hp;exact ⟨bW _ p1,p2,stands he hi Eg p p1 p2 (λl _=>eD l) (.inl uo) p3⟩
  .rcases aV.1 hj with hj| hj
   .obtain ⟨p,hp,e⟩:=jI j hj JG λq hq hpq=>V6 q (bW _ hq) hpq;exact ⟨p,aI _ hp,e⟩
   .have Kp:j=i:=by simpa using hj
    exact ⟨_,aN ..,Kp.symm⟩
 .rintro dn i rest c w' o ⟨he,E',g',s1,lv,l1,l2,S1,hv,Qn,jI⟩ uo hi;unfold BQ at hv;simp only [hi,uo] at hv;have key:∀ a' w'',acX n W F b E' g' s1 o.dst (λs' ks=>jh (lv.filter λp=> !dU (ln ms i) p.1) λlv=>if lv.all (λp=>p.2.all λl=> !iA l ks) then BQ X n ops b ms pu rest lv s' K else False) a' w''->UG X n W F b E g ops ms pu ord K (dn++ [i]) rest a' w'':=by
   rintro a' w'' ⟨E2,g2,s2,ks,m1,m2,S2,hk,hal⟩;have hk:=fw _ hk;obtain ⟨hc,hk⟩:=dc hk;refine ⟨by rw [<-he];simp,E2,g2,s2,_,l1.trans m1,l2.trans m2,S2,hk,λp hp=>?_,λj hj JG V6=>?_⟩
   .have Z6:=(gk.1 hp).1;obtain ⟨p1,p2,p3⟩:=Qn p Z6;have hw:dU (ln ms i) p.1=false:=by simpa using (gk.1 hp).2
    refine ⟨bW _ p1,p2,stands he hi hal.slot p p1 p2 (λl hl=>hal.obj l λhlk=>?_) (.inr hw) p3⟩;have:=bo.1 (bo.1 hc p hp) l hl;rw [gz.2 hlk] at this;cases this
   .have Ev:j∈dn:=by
     rcases aV.1 hj with h| h;exact h
     .have:j=i:=by simpa using h
      subst this;rw [uo] at JG;cases JG
    obtain ⟨p,hp,e⟩:=jI j Ev JG λq hq hpq=>V6 q (bW _ hq) hpq;refine ⟨p,gk.2 ⟨hp,?_⟩,e⟩;cases hb:dU (ln ms i) p.1 with
    | false=>rfl
    | true=>
     exfalso
     rw [e] at hb;exact V6 i (by simp) uo (hms i j hb)
  rcases Nb kf S1 hv with ⟨hw,hr⟩| ⟨hw,hr⟩
  .refine .inl ⟨hw,?_⟩;rcases hr with ⟨v,w2,hr,h⟩| ⟨w2,hr,h⟩| ⟨f,args,hr,h⟩
   .exact .inl ⟨v,w2,hr,key _ w2 h⟩
   .exact .inr (.inl ⟨w2,hr,key _ w2 h⟩)
   .exact .inr (.inr ⟨f,args,hr,h.mono λv w2 h=>key _ w2 h⟩)
  .exact .inr ⟨hw,key _ _ hr⟩
 .rintro dn c w' ⟨he,E',g',s1,lv,l1,l2,S1,hv,_⟩;exact k c w' ⟨E',g',s1,l1,l2,S1,hv⟩
 .intro j o hj hl;rw [tY] at hl;cases hl
 .exact ⟨rfl,E,g,s,[],bu.refl E,bt.refl g,S.le (Le.drew w),h,λp hp=>(by cases hp),λi hi=>(by cases hi)⟩
 .intro i hl;rw [tY] at hl;cases hl
 .simp;exact Nat.le_trans (List.length_filter_le _ _) (by simp)
theorem O5 {ro:Option Nat} {m:Nat} (kf:jv W X.P X.ct) {K:Ov->Prop} {Q:Exit->Act->World->Prop} {id:Nat} {draw:Bool} (S:df n W F b E g w s a) (h:wB X n ops draw b s K) (k:∀ a' w',Step n W F b E g K a' w'->Q .normal a' w'):(Code.region id ops draw).wpIn (Ei ro) m X.P Q a w:=by
 cases draw with
 | true=>exact afi kf S h k
 | false=>
  unfold wB at h;exact wpIn_region_lit (HY kf S h k)
end
section
variable {W:cV} {F:List Atom} {E E':Env} {g w:World}
theorem tD {l:Nat} {v:Value} (h:E[l]?=some v):l< E.length:=(aw.1 h).1
mutual
theorem ck.Ko:∀ {c:Cl} {u:Value},ck E g c u->∀ l∈c.labels,l< E.length
 | .k _,_,_,_,h=>by cases h
 | .d _ _,_,_,_,h=>by cases h
 | .de _ _ _ _,_,_,_,h=>by cases h
 | .Km,_,_,_,h=>by cases h
 | .p _ _,_,⟨_,h1,_⟩,_,h=>by rw [aU.1 h];exact tD h1
 | .o _,_,⟨h1,_⟩,_,h=>by rw [aU.1 h];exact tD h1
 | .os _ _ _ _,_,⟨_,h1,_⟩,_,h=>by rw [aU.1 h];exact tD h1
 | .oe _ _ _ _,_,⟨_,h1,_⟩,_,h=>by rw [aU.1 h];exact tD h1
 | .m _,_,⟨_,h1,_⟩,_,h=>by rw [aU.1 h];exact tD h1
 | .sc _ _ _,_,⟨_,_,h1,_⟩,_,h=>by rw [aU.1 h];exact tD h1
 | .kl _ _,_,⟨⟨_,h1⟩,_⟩,_,h=>by rw [aU.1 h];exact tD h1
 | .fn _ _,_,⟨_,h1,_⟩,l,h=>bz.Ko h1 l h
 | .Ee _ _,_,⟨_,h1,_⟩,l,h=>ck.Ko h1 l h
theorem bz.Ko:∀ {cs:List Cl} {us:List Value},bz E g cs us->∀ l∈Cl.nT cs,l< E.length
 | [],_,_,_,h=>by cases h
 | _::_,_,⟨_,_,_,h1,h2⟩,l,h=>by
  rcases aV.1 h with h| h;exact ck.Ko h1 l h;exact bz.Ko h2 l h
end
mutual
theorem ck.jH:∀ {c:Cl} {u:Value},(∀ l∈c.labels,E'[l]?=E[l]?)->ck E g c u->ck E' g c u
 | .k _,_,_,h=>h
 | .d _ _,_,_,h=>h
 | .de _ _ _ _,_,_,h=>h
 | .Km,_,_,h=>h
 | .p l _,_,k,⟨b,h1,h2⟩=>⟨b,by rw [k l (aU.2 rfl)];exact h1,h2⟩
 | .o l,_,k,⟨h1,h2⟩=>⟨by rw [k l (aU.2 rfl)];exact h1,h2⟩
 | .os l _ _ _,_,k,⟨v,h1,h2⟩=>⟨v,by rw [k l (aU.2 rfl)];exact h1,h2⟩
 | .oe l _ _ _,_,k,⟨v,h1,h2⟩=>⟨v,by rw [k l (aU.2 rfl)];exact h1,h2⟩
 | .m l,_,k,⟨b,h1,h2⟩=>⟨b,by rw [k l (aU.2 rfl)];exact h1,h2⟩
 | .sc l _ _,_,k,⟨b,c,h1,h2⟩=>⟨b,c,by rw [k l (aU.2 rfl)];exact h1,h2⟩
 | .kl l _,_,k,⟨⟨x,h1⟩,h2⟩=>⟨⟨x,by rw [k l (aU.2 rfl)];exact h1⟩,h2⟩
 | .fn _ _,_,k,⟨us,h1,h2⟩=>⟨us,bz.jH k h1,h2⟩
 | .Ee _ _,_,k,⟨v,h1,h2⟩=>⟨v,ck.jH k h1,h2⟩
theorem bz.jH:∀ {cs:List Cl} {us:List Value},(∀ l∈Cl.nT cs,E'[l]?=E[l]?)->bz E g cs us->bz E' g cs us
 | [],_,_,h=>h
 | _::_,_,k,⟨u,r,e,h1,h2⟩=>⟨u,r,e,ck.jH (λl hl=>k l (bW _ hl)) h1,bz.jH (λl hl=>k l (List.mem_append_right _ hl)) h2⟩
end
theorem gr.Ko:∀ {x:S1} {u:Value},gr E g x u->∀ l∈x.labels,l< E.length
 | .c _,_,h,l,hl=>ck.Ko h l hl
 | .agg _,_,⟨_,h,_⟩,l,hl=>bz.Ko h l hl
theorem gr.jH:∀ {x:S1} {u:Value},(∀ l∈x.labels,E'[l]?=E[l]?)->gr E g x u->gr E' g x u
 | .c _,_,k,h=>ck.jH k h
 | .agg _,_,k,⟨us,h,e⟩=>⟨us,bz.jH k h,e⟩
theorem ir.Ko:∀ {x:List S1} {us:List Value},ir E g x us->∀ l∈x.flatMap S1.labels,l< E.length
 | [],_,_,_,h=>by cases h
 | _::_,_,⟨_,_,_,h1,h2⟩,l,h=>by
  rw [pd] at h;rcases aV.1 h with h| h;exact h1.Ko l h;exact h2.Ko l h
theorem ir.jH:∀ {x:List S1} {us:List Value},(∀ l∈x.flatMap S1.labels,E'[l]?=E[l]?)->ir E g x us->ir E' g x us
 | [],_,_,h=>h
 | _::_,_,k,⟨u,r,e,h1,h2⟩=>⟨u,r,e,h1.jH λl hl=>k l (by rw [pd];exact bW _ hl),h2.jH λl hl=>k l (by rw [pd];exact List.mem_append_right _ hl)⟩
theorem dd.Ko:∀ {x:SV} {u:Value},dd E g x u->∀ l∈x.labels,l< E.length
 | .v _,_,h,l,hl=>gr.Ko h l hl
 | .cC _,_,⟨_,h,_⟩,l,hl=>ir.Ko h l hl
 | .any,_,_,_,hl=>by cases hl
 | .arr _ _,_,_,_,hl=>by cases hl
theorem dd.jH:∀ {x:SV} {u:Value},(∀ l∈x.labels,E'[l]?=E[l]?)->dd E g x u->dd E' g x u
 | .v _,_,k,h=>gr.jH k h
 | .cC _,_,k,⟨us,h,e⟩=>⟨us,ir.jH k h,e⟩
 | .any,_,_,_=>trivial
 | .arr _ _,_,_,h=>h
theorem cF.Ko {l:Nat}:∀ {o:HO} {h:Hp},(cF E l o).sat g h->∀ k∈o.labels,k< E.length
 | .cells _ _,_,⟨_,_,_,h2,_⟩,k,hk=>bz.Ko h2 k hk
 | .sl _ _ _,_,_,_,hk=>by cases hk
 | .held _ _ _,_,_,_,hk=>by cases hk
 | .map ..,_,_,_,hk=>by cases hk
 | .abs _,_,_,_,hk=>by cases hk
 | .ab _,_,_,_,hk=>by cases hk
 | .gone,_,_,_,hk=>by cases hk
 | .pL _ n,_,⟨_,_,_,h2,_⟩,k,hk=>by
  rw [aU.1 hk];exact (aw.1 h2).1
theorem cF.jH {l l':Nat}:∀ {o:HO} {h:Hp},(∀ k∈o.labels,E'[k]?=E[k]?)->E'[l']?=E[l]?->(cF E l o).sat g h->(cF E' l' o).sat g h
 | .cells _ _,_,k,kl,⟨b,us,h1,h2,h3⟩=>⟨b,us,by rw [kl];exact h1,bz.jH k h2,h3⟩
 | .sl _ _ _,_,_,kl,⟨v,h1,h2⟩=>⟨v,by rw [kl];exact h1,h2⟩
 | .held _ _ _,_,_,kl,⟨v,h1,h2⟩=>⟨v,by rw [kl];exact h1,h2⟩
 | .map ..,_,_,kl,⟨b,m,h1,h2⟩=>⟨b,m,by rw [kl];exact h1,h2⟩
 | .abs _,_,_,kl,⟨v,h1,h2⟩=>⟨v,by rw [kl];exact h1,h2⟩
 | .ab _,_,_,kl,⟨v,h1,h2⟩=>⟨v,by rw [kl];exact h1,h2⟩
 | .gone,_,_,_,h=>h
 | .pL _ n,_,k,kl,⟨v,vn,h1,h2,h3⟩=>⟨v,vn,by rw [kl];exact h1,by rw [k n (aU.2 rfl)];exact h2,h3⟩
end
section
variable {n:Nat} {W:cV} {F:List Atom} {b:Bs} {E E':Env} {g g' w w':World} {s s':Ov} {a a':Act}
theorem jg {p:Nat->Bool}:∀ {l:Ay} {t:Nat},gg (l.filter λq=>p q.1) t=bif p t then gg l t else none
 | [],t=>by cases p t<;>rfl
 | (k,v)::r,t=>by
  rw [List.filter_cons];by_cases e:k=t
  .subst e;cases hp:p k with
   | true=>simp [gg]
   | false=>
    have:=jg (p:=p) (l:=r) (t:=k);rw [hp] at this;simpa using this
  .have ih:=jg (p:=p) (l:=r) (t:=t);split
   .simp only [gg,jk e,cond_false];exact ih
   .simp only [gg,jk e,cond_false];exact ih
theorem Vl {ks:List Nat} (t:Nat):(pS ks b s).slot (uO ks b s) t=b.slot s t:=by
 unfold Bs.slot pS uO;simp only;rw [jg (p:=λk=>iA k ks),jg (p:=λk=> !iA k ks),mr];cases iA t ks with
 | true=>simp only [cond_true,Bool.not_true,cond_false];split<;>rename_i h<;>first| exact h.symm| (rw [h])
 | false=>simp only [cond_false,Bool.not_false,cond_true];rfl
theorem Ca {ks:List Nat} (h:∀ l,s.n<=l->b.obj s l= .gone) {s2 s3:Ov} (h3:s3.h=s2.h++s.h) (l:Nat):(pS ks b s).obj s2 l=b.obj s3 l:=by
 unfold Bs.obj;rw [h3,n5];show (match gF s2.h l with| some o=>o| none=>lF (b.heap s) l)=_
 cases gF s2.h l with
 | some o=>rfl
 | none=>exact yS h l
theorem Gf {ks:List Nat} (h:∀ l,s.n<=l->b.obj s l= .gone) {s2 s3:Ov} (h3:s3.h=s2.h++s.h) (hn:s3.n=s2.n):(pS ks b s).heap s2=b.heap s3:=by
 unfold Bs.heap;rw [hn];exact jy λl _=>Ca h h3 l
theorem df.ai9 (S:df n W F b E g w s a) (ks:List Nat):df n W F (pS ks b s) E g w (uO ks b s) a:=by
 refine ⟨S.size,S.defers,λt v hv=>S.fr t v (by rw [<-Vl (ks:=ks)];exact hv),?_,λl hl=>?_⟩;rw [Gf (s2:=uO ks b s) (s3:=s) S.top rfl rfl];exact S.sat
 .rw [Ca (s2:=uO ks b s) (s3:=s) S.top rfl];exact S.top l hl
theorem VU {ks:List Nat} {t:Nat}:gg (ks.map λk=>(k,SV.any)) t=bif iA t ks then some .any else none:=by
 induction ks with
 | nil=>rfl
 | cons k r ih=>
  simp only [cw,gg,iA];by_cases e:k=t;subst e;simp
  .have e':¬t=k:=λq=>e q.symm;rw [jk e,jk e',ih];rfl
theorem df.out {ks:List Nat} (top:∀ l,s.n<=l->b.obj s l= .gone) (S:df n W F (pS ks b s) E' g' w' s' a'):df n W F b E' g' w' (ph ks s s') a':=by
 refine ⟨S.size,S.defers,λt v hv=>?_,?_,λl hl=>?_⟩
 .have hv:(match gg (s'.f++(ks.map (λk=>(k,SV.any))++s.f)) t with
   | some v=>some v
   | none=>gg b.f t)=some v:=hv
  rw [mr,mr,VU] at hv;cases h1:gg s'.f t with
  | some u=>
   rw [h1] at hv;refine S.fr t v ?_;unfold Bs.slot;rw [h1];exact hv
  | none=>
   rw [h1] at hv;cases hm:iA t ks with
   | true=>
    rw [hm] at hv;obtain rfl:SV.any=v:=aj hv;trivial
   | false=>
    rw [hm] at hv;refine S.fr t v ?_;unfold Bs.slot;rw [h1];show gg ((s.f++b.f).filter λp=> !iA p.1 ks) t=some v;rw [jg (p:=λk=> !iA k ks),hm,mr];exact hv
 .rw [<-Gf (s2:=s') (s3:=ph ks s s') top rfl rfl];exact S.sat
 .rw [<-Ca (s2:=s') (s3:=ph ks s s') top rfl];exact S.top l hl
structure Old (n0:Nat) (b1:Bs):Prop where
 slot:∀ t v,gg b1.f t=some v->∀ l∈v.labels,l< n0
 obj:∀ k,∀ l∈(lF b1.h k).labels,l< n0
 len:b1.h.length=n0
theorem df.xL (S:df n W F b E g w s a) (ks:List Nat):Old s.n (pS ks b s):=by
 refine ⟨λt v hv l hl=>?_,λk l hl=>?_,dW⟩
 .rw [<-S.len];have hv:gg ((s.f++b.f).filter λp=> !iA p.1 ks) t=some v:=hv;rw [jg (p:=λk=> !iA k ks)] at hv;cases hm:iA t ks with
  | true=>rw [hm] at hv;cases hv
  | false=>
   rw [hm,Bool.not_false,cond_true,mr] at hv;exact (S.fr t v hv).Ko l hl
 .have hl:l∈(lF (b.heap s) k).labels:=hl;rw [yS S.top] at hl;rw [<-S.len];by_cases hk:k< s.n
  .have AK:k< E.length:=by rw [S.len];exact hk
   obtain ⟨h,_,_,_,h1,_,_,_,s1,_⟩:=S.pick (aq AK);exact cF.Ko s1 l hl
  .rw [S.top k (by omega)] at hl;cases hl
theorem uM {F:Fence} {n:Nat} {P:Program} {Q:Exit->Act->World->Prop} {c:Code} {ι:Type} (I:ι->Act->World->Prop) (μ:ι->Nat) (i₀:ι) (h₀:I i₀ a w)
  (round:∀ i a w,I i a w->c.wpIn F n P (Exit.then (λa' w'=>∃ i',I i' a' w'/\μ i'< μ i) Q) a w):(Code.loop c).wpIn F n P Q a w:=by
 intro b kk cs hro hb hr;have key:∀ k i a w,μ i=k->I i a w->
   ∃ e a' w',Q e a' w'/\ArrivesIn (Machine.fenced P F) P (lone (b.atR a (.code c:: .inLoop c::kk)) cs w) b kk cs e a' w':=by
  intro k
  induction k using Nat.strongRecOn with
  | _ k ih=>
   intro i a w hk hi;obtain ⟨e,a₁,w₁,hq,NJ⟩:=round i a w hi b (.inLoop c::kk) cs hro hb hr;cases e with
   | normal=>
    obtain ⟨i',hI,fB⟩:=hq;obtain ⟨e₂,a₂,w₂,hq₂,ae8⟩:=ih (μ i') (by omega) i' a₁ w₁ rfl hI;exact ⟨e₂,a₂,w₂,hq₂,.of_steps (StepsIn.trans NJ (.one (fenced_calm hb hr rfl) stepR_inLoop)) ae8⟩
   | exit id=>exact ⟨_,a₁,w₁,hq,.pass (x:=.inLoop c) rfl (λ_ _=>.inl (by simp)) NJ⟩
   | goto l=>exact ⟨_,a₁,w₁,hq,.pass (x:=.inLoop c) rfl (λ_ _=>.inl (by simp)) NJ⟩
   | ret=>exact ⟨_,a₁,w₁,hq,.pass (x:=.inLoop c) rfl (λ_ _=>.inl (by simp)) NJ⟩
   | panic ch=>exact ⟨_,a₁,w₁,hq,.pass (x:=.inLoop c) rfl (λ_ _=>.inl (by simp)) NJ⟩
   | outgrown=>exact ⟨_,a₁,w₁,hq,.pass (x:=.inLoop c) rfl (λ_ _=>.inl (by simp)) NJ⟩
 obtain ⟨e,a',w',hq,NJ⟩:=key _ i₀ a w rfl h₀;exact ⟨e,a',w',hq,.of_steps (.one (fenced_calm hb hr rfl) stepR_loop) NJ⟩
end
section
variable {n n0:Nat} {W:cV} {F:List Atom} {b:Bs} {E E2 E3:Env} {g w:World} {s s':Ov} {a:Act}
def Mov:HO->Prop
 | .sl .. | .ab _=>True
 | _=>False
theorem Mov.sat {E2 E3:Env} {g:World} {l i:Nat} {v:Value} {hh:Hp}:∀ {o:HO},Mov o->E2[l]?=some v->E3[i]?=some v->(cF E2 l o).sat g hh->(cF E3 i o).sat g hh
 | .sl ..,_,h1,h2,⟨z,z1,z2⟩=>by
  rw [h1] at z1;obtain rfl:=aj z1;exact ⟨_,h2,z2⟩
 | .ab _,_,h1,h2,⟨z,z1,z2⟩=>by
  rw [h1] at z1;obtain rfl:=aj z1;exact ⟨_,h2,z2⟩
 | .cells ..,h,_,_,_| .held ..,h,_,_,_| .map ..,h,_,_,_| .abs _,h,_,_,_| .gone,h,_,_,_| .pL ..,h,_,_,_=>h.elim
def ah6 (E2:Env) (b:Bs) (s':Ov) (q:Option Nat×Value) (o:HO):Prop:=
 (∃ l o',q.1=some l/\E2[l]?=some q.2/\b.obj s' l=o'/\o=o'/\Mov o')\/(q.1=none/\q.2= .slice none 0 0/\∃ t e,o= .sl t e [])
def k8 (E2:Env) (b:Bs) (s':Ov):List (Option Nat×Value)->List HO->Prop
 | [],os=>os= []
 | q::qs,os=>∃ o r,os=o::r/\ah6 E2 b s' q o/\k8 E2 b s' qs r
theorem k8.app:∀ {q1 q2:List (Option Nat×Value)} {o1 o2:List HO},k8 E2 b s' q1 o1->k8 E2 b s' q2 o2->k8 E2 b s' (q1++q2) (o1++o2)
 | [],_,_,_,h,k=>by rw [show _= [] from h];exact k
 | _::_,_,_,_,⟨o,r,e,h1,h2⟩,k=>by rw [e];exact ⟨o,_,rfl,h1,h2.app k⟩
theorem k8.len:∀ {q:List (Option Nat×Value)} {o:List HO},k8 E2 b s' q o->q.length=o.length
 | [],_,h=>by rw [show _= [] from h];rfl
 | _::_,_,⟨o,r,e,_,h⟩=>by rw [e,av,av,h.len]
theorem k8.get:∀ {q:List (Option Nat×Value)} {o:List HO} {i:Nat} {x:Option Nat×Value} {y:HO},k8 E2 b s' q o->q[i]?=some x->o[i]?=some y->ah6 E2 b s' x y
 | [],_,_,_,_,_,h,_=>by simp at h
 | _::_,_,0,x,y,⟨o,r,e,h1,_⟩,h,k=>by
  subst e;obtain rfl:_=x:=by simpa using h
  obtain rfl:o=y:=by simpa using k
  exact h1
 | _::_,_,i+1,x,y,⟨o,r,e,_,h2⟩,h,k=>by
  subst e;exact h2.get (i:=i) (by simpa using h) (by simpa using k)
def Kept (n0:Nat) (E2 E3:Env):Prop:=∀ l,l< n0->E3[l]?=E2[l]?
def At (E3:Env) (m:Nat) (qs:List (Option Nat×Value)):Prop:=∀ j q,qs[j]?=some q->E3[m+j]?=some q.2
theorem At.left {m:Nat} {p q:List (Option Nat×Value)} (h:At E3 m (p++q)):At E3 m p:=λj x hx=>h j x (by rw [bF (aw.1 hx).1];exact hx)
theorem At.right {m:Nat} {p q:List (Option Nat×Value)} (h:At E3 m (p++q)):At E3 (m+p.length) q:=λj x hx=>by
 have:=h (p.length+j) x (by rw [bD (by omega)];simpa using hx);rw [show m+p.length+j=m+(p.length+j) by omega];exact this
abbrev AA (qs:List (Option Nat×Value)):List Nat:=qs.filterMap (·.1)
theorem agl (S:df n W F b E2 g w s' a) (hb:b.h.length=n0):∀ {h:Sh} {c:Cl} {x:h.den} {u:List Nat} {v0:Value},h.rd b s' c=some (x,u)->ck E2 g c v0->
  ∃ qs,AA qs=u/\(∀ m,k8 E2 b s' qs (h.mk x m).2)/\∀ m E3,Kept n0 E2 E3->At E3 m qs->∀ v,ck E2 g c v->ck E3 g (h.mk x m).1 v:=by
 intro h c x u v0 hr r0;cases h with
 | int k=>
  dsimp only [Sh.rd] at hr;split at hr
  .split at hr
   .rename_i hk;obtain rfl:=IntKind.eq_of_beq hk;cases hr;exact ⟨[],rfl,λm=>rfl,λm E3 _ _ v h=>h⟩
   .cases hr
  .cases hr
 | bool=>
  dsimp only [Sh.rd] at hr;split at hr
  .cases hr;exact ⟨[],rfl,λm=>rfl,λm E3 _ _ v h=>h⟩
  .cases hr
 | str=>
  dsimp only [Sh.rd] at hr;split at hr
  .cases hr;exact ⟨[],rfl,λm=>rfl,λm E3 _ _ v h=>h⟩
  .cases hr
 | d e=>
  dsimp only [Sh.rd] at hr;split at hr
  .split at hr
   .rename_i y hy;obtain ⟨q,e1⟩:=eB hy;subst q;cases hr;subst e1;exact ⟨[],rfl,λm=>rfl,λm E3 _ _ v h=>h⟩
   .cases hr
  .cases hr;exact ⟨[],rfl,λm=>rfl,λm E3 _ _ v h=>by
    obtain ⟨rfl,_⟩:=h;exact (@dE e.den e.rep g _ _).2 (.inl ⟨rfl,rfl⟩)⟩
  .split at hr
   .rename_i eD;split at hr
    .rename_i y hy;obtain ⟨q,e1⟩:=eB hy;subst q;cases hr;subst e1;exact ⟨[],rfl,λm=>rfl,λm E3 _ _ v h=>lO S h.1 eD⟩
    .cases hr
   .cases hr
  .cases hr
 | own t e=>
  dsimp only [Sh.rd] at hr;split at hr
  .cases hr;refine ⟨[(none,.slice none 0 0)],rfl,λm=>⟨_,[],rfl,.inr ⟨rfl,rfl,t,e,rfl⟩,rfl⟩,λm E3 _ uV v h=>?_⟩;obtain ⟨rfl,_⟩:=h;exact ⟨by have:=uV 0 _ rfl;simpa using this,none,0,0,rfl⟩
  .rename_i l;split at hr
   .rename_i t' e' xs eD;split at hr
    .rename_i ht;obtain rfl:=ai ht;split at hr
     .rename_i y hy;obtain ⟨q,e1⟩:=eB hy;subst q;cases hr;subst e1;refine ⟨[(some l,v0)],rfl,λm=>⟨_,[],rfl,.inl ⟨l,_,rfl,r0.1,eD,rfl,trivial⟩,rfl⟩,λm E3 _ uV v h=>?_⟩;have:v=v0:=by
       have h1:=h.1;rw [r0.1] at h1;exact (aj h1).symm
      subst this;exact ⟨by have:=uV 0 _ rfl;simpa using this,h.2⟩
     .cases hr
    .cases hr
   .cases hr
  .cases hr
 | p l off=>
  dsimp only [Sh.rd] at hr;split at hr
  .split at hr
   .rename_i hq;simp only [ao] at hq;obtain ⟨⟨h1,h2⟩,h3⟩:=hq;obtain rfl:=ai h1;obtain rfl:=ai h2;cases hr;refine ⟨[],rfl,λm=>rfl,λm E3 hk _ v h=>h.jH λl hl=>?_⟩;rw [aU.1 hl];exact hk _ (by rw [<-hb];simpa using h3)
   .cases hr
  .cases hr
 | m l=>
  dsimp only [Sh.rd] at hr;split at hr
  .split at hr
   .rename_i hq;simp only [ao] at hq;obtain ⟨h1,h3⟩:=hq;obtain rfl:=ai h1;cases hr;refine ⟨[],rfl,λm=>rfl,λm E3 hk _ v h=>h.jH λl hl=>?_⟩;rw [aU.1 hl];exact hk _ (by rw [<-hb];simpa using h3)
   .cases hr
  .cases hr
 | pa t=>
  dsimp only [Sh.rd] at hr;split at hr
  .rename_i l;split at hr
   .rename_i k eD;split at hr
    .rename_i y hy;cases hr;have hk:=Xm.ago hy;obtain ⟨bb,hE,hv⟩:=r0;have Tu:v0=ptr bb 0:=hv;subst Tu;refine ⟨[(some l,ptr bb 0)],rfl,λm=>⟨_,[],rfl,.inl ⟨l,_,rfl,hE,eD,by rw [hk],trivial⟩,rfl⟩,λm E3 _ uV v h=>?_⟩;obtain ⟨b2,h1,h2⟩:=h;rw [hE] at h1;have e:ptr bb 0=ptr b2 0:=aj h1;refine ⟨b2,?_,h2⟩;have:=uV 0 _ rfl;rw [<-e];simpa using this
    .cases hr
   .cases hr
  .cases hr
 | JS c0=>
  dsimp only [Sh.rd] at hr;split at hr
  .rename_i hq;simp only [ao] at hq;obtain rfl:=Cl.Ig hq.1;cases hr;refine ⟨[],rfl,λm=>rfl,λm E3 hk _ v h=>h.jH λl hl=>?_⟩;have:=bo.1 hq.2 l hl;exact hk _ (by rw [<-hb];simpa using this)
  .cases hr
 | dp e=>
  dsimp only [Sh.rd] at hr;split at hr
  .split at hr
   .rename_i hq;simp only [ao,decide_eq_true_eq] at hq;obtain ⟨rfl,h2⟩:=hq;obtain rfl:=ai h2;split at hr
    .rename_i y hy;obtain ⟨q,e1⟩:=eB hy;subst q;cases hr;subst e1;exact ⟨[],rfl,λm=>rfl,λm E3 _ _ v h=>h⟩
    .cases hr
   .cases hr
  .cases hr
theorem wH {p q:List (Option Nat×Value)}:AA (p++q)=AA p++AA q:=by simp [AA]
theorem YH (S:df n W F b E2 g w s' a) (hb:b.h.length=n0):∀ {l:List Sh} {cs:List Cl} {x:OK.den l} {u:List Nat} {us0:List Value},OK.rd b s' l cs=some (x,u)->bz E2 g cs us0->
  ∃ qs,AA qs=u/\(∀ m,k8 E2 b s' qs (OK.mk l x m).2)/\∀ m E3,Kept n0 E2 E3->At E3 m qs->∀ us,bz E2 g cs us->bz E3 g (OK.mk l x m).1 us
 | [],[],x,u,us0,hr,r=>by
  cases hr;exact ⟨[],rfl,λm=>rfl,λm E3 _ _ us h=>h⟩
 | h::l,c::cs,x,u,us0,hr,⟨v0,r0,e0,h1,h2⟩=>by
  unfold OK.rd at hr;split at hr
  .rename_i x1 u1 hx;split at hr
   .rename_i y u2 hy;cases hr;obtain ⟨q1,e1,n1,k1⟩:=agl S hb hx h1;obtain ⟨q2,e2,n2,k2⟩:=YH S hb hy h2;refine ⟨q1++q2,by rw [wH,e1,e2],λm=>(n1 m).app (n2 _),λm E3 hk uV us Xf=>?_⟩;obtain ⟨v,r,rfl,g1,g2⟩:=Xf;refine ⟨v,r,rfl,k1 m E3 hk uV.left v g1,k2 _ E3 hk ?_ r g2⟩;rw [<-(n1 m).len];exact uV.right
   .cases hr
  .cases hr
 | [],_::_,_,_,_,hr,_=>by cases hr
 | _::_,[],_,_,_,hr,_=>by cases hr
theorem ajj (S:df n W F b E2 g w s' a) (hb:b.h.length=n0) {h:ON} {x:h.den} {u:List Nat} {l:Nat} (hl:l< n0) (hs:n0<=s'.n) (hr:h.rd b s' (b.obj s' l)=some (x,u)):
  ∃ qs,AA qs=u/\(∀ m,k8 E2 b s' qs (h.mk x m).2)/\∀ m E3,Kept n0 E2 E3->At E3 m qs->∀ hh,(cF E2 l (b.obj s' l)).sat g hh->(cF E3 l (h.mk x m).1).sat g hh:=by
 have Al:l< E2.length:=by rw [S.len];omega
 obtain ⟨_,_,_,_,hh0,_,_,_,sat0,_⟩:=S.pick (aq Al);cases h with
 | cells t cs=>
  dsimp only [ON.rd] at hr;split at hr
  .rename_i t' c eD;rw [eD] at sat0 ⊢;split at hr
   .rename_i ht;obtain rfl:=ai ht;obtain ⟨b0,us0,_,r0,_⟩:=sat0;obtain ⟨qs,e1,n1,k1⟩:=YH S hb hr r0;exact ⟨qs,e1,n1,λm E3 hk uV hh ⟨b1,us,h1,h2,h3⟩=>⟨b1,us,by rw [hk l hl];exact h1,k1 m E3 hk uV us h2,h3⟩⟩
   .cases hr
  .cases hr
 | sl t e=>
  dsimp only [ON.rd] at hr;split at hr
  .rename_i t' e' xs eD;split at hr
   .rename_i ht;obtain rfl:=ai ht;split at hr
    .rename_i y hy;obtain ⟨q,e1⟩:=eB hy;subst q;cases hr;subst e1;rw [eD];exact ⟨[],rfl,λm=>rfl,λm E3 hk _ hh ⟨v,h1,h2⟩=>⟨v,by rw [hk l hl];exact h1,h2⟩⟩
    .cases hr
   .cases hr
  .cases hr
 | map t k e=>
  dsimp only [ON.rd] at hr;split at hr
  .rename_i t' k' e' xs eD;split at hr
   .rename_i ht;obtain rfl:=ai ht;split at hr
    .rename_i y hy;obtain ⟨p,q,e1⟩:=abE hy;subst p;subst q;cases hr;subst e1;rw [eD];exact ⟨[],rfl,λm=>rfl,λm E3 hk _ hh ⟨bb,mm,h1,h2⟩=>⟨bb,mm,by rw [hk l hl];exact h1,h2⟩⟩
    .cases hr
   .cases hr
  .cases hr
 | ab t=>
  dsimp only [ON.rd] at hr;split at hr
  .rename_i k eD;split at hr
   .rename_i y hy;cases hr;rw [eD,Xm.ago hy];exact ⟨[],rfl,λm=>rfl,λm E3 hk _ hh ⟨v,h1,h2⟩=>⟨v,by rw [hk l hl];exact h1,h2⟩⟩
   .cases hr
  .cases hr
 | abs=>
  dsimp only [ON.rd] at hr;split at hr
  .rename_i a0 eD;cases hr;rw [eD];exact ⟨[],rfl,λm=>rfl,λm E3 hk _ hh ⟨v,h1,h2⟩=>⟨v,by rw [hk l hl];exact h1,h2⟩⟩
  .cases hr
theorem Mf (S:df n W F b E2 g w s' a) (hb:b.h.length=n0):∀ {l:List (Nat×Sh)} {x:sq l} {u:List Nat},AV b s' l=some (x,u)->
  ∃ qs,AA qs=u/\(∀ m,k8 E2 b s' qs (jF l x m).2)/\∀ m E3,Kept n0 E2 E3->At E3 m qs->∀ t v,gg (jF l x m).1 t=some v->dd E3 g v (a.tmps.getD t undef)
 | [],x,u,hr=>by
  cases hr;exact ⟨[],rfl,λm=>rfl,λm E3 _ _ t v h=>by cases h⟩
 | p::l,x,u,hr=>by
  unfold AV at hr;split at hr
  .rename_i c hc;split at hr
   .rename_i x1 u1 hx;split at hr
    .rename_i y u2 hy;cases hr;obtain ⟨q1,e1,n1,k1⟩:=agl S hb hx (S.fr _ _ hc);obtain ⟨q2,e2,n2,k2⟩:=Mf S hb hy;refine ⟨q1++q2,by rw [wH,e1,e2],λm=>(n1 m).app (n2 _),λm E3 hk uV t v hv=>?_⟩;have hv:(bif Nat.beq p.1 t then some (SV.c (p.2.mk x1 m).1) else gg (jF l y (m+(p.2.mk x1 m).2.length)).1 t)=some v:=hv;by_cases e:p.1=t
     .subst e;have hbq:Nat.beq p.1 p.1=true:=by simp
      rw [hbq] at hv;obtain rfl:=aj hv;exact k1 m E3 hk uV.left _ (S.fr _ _ hc)
     .rw [jk e] at hv;refine k2 _ E3 hk ?_ t v hv;rw [<-(n1 m).len];exact uV.right
    .cases hr
   .cases hr
  .cases hr
theorem S5 (S:df n W F b E2 g w s' a) (hb:b.h.length=n0) (hs:n0<=s'.n):∀ {l:List (Nat×ON)} {x:wV l} {u:List Nat},(∀ p∈l,p.1< n0)->Jj b s' l=some (x,u)->
  ∃ qs,AA qs=u/\(∀ m,k8 E2 b s' qs (mq l x m).2)/\(∀ m E3,Kept n0 E2 E3->At E3 m qs->∀ k o,gF (mq l x m).1 k=some o->∀ hh,(cF E2 k (b.obj s' k)).sat g hh->(cF E3 k o).sat g hh)/\∀ m k,gF (mq l x m).1 k=none↔k ∉ l.map (·.1)
 | [],x,u,_,hr=>by
  cases hr;exact ⟨[],rfl,λm=>rfl,(λm E3 _ _ t v h=>by cases h),λm k=>by simp [mq,gF]⟩
 | p::l,x,u,hl,hr=>by
  unfold Jj at hr;split at hr
  .rename_i x1 u1 hx;split at hr
   .rename_i y u2 hy;cases hr;obtain ⟨q1,e1,n1,k1⟩:=ajj S hb (hl p (by simp)) hs hx;obtain ⟨q2,e2,n2,k2,k3⟩:=S5 S hb hs (λq hq=>hl q (aI _ hq)) hy;have look:∀ m k,gF (mq (p::l) (x1,y) m).1 k=(bif Nat.beq p.1 k then some (p.2.mk x1 m).1 else gF (mq l y (m+(p.2.mk x1 m).2.length)).1 k):=λm k=>rfl;refine ⟨q1++q2,by rw [wH,e1,e2],λm=>(n1 m).app (n2 _),λm E3 hk uV k o ho hh sat=>?_,λm k=>?_⟩
    .rw [look] at ho;by_cases e:p.1=k
     .subst e;have hbq:Nat.beq p.1 p.1=true:=by simp
      rw [hbq] at ho;obtain rfl:=aj ho;exact k1 m E3 hk uV.left hh sat
     .rw [jk e] at ho;refine k2 _ E3 hk ?_ k o ho hh sat
      rw [<-(n1 m).len];exact uV.right
    .rw [look];by_cases e:p.1=k
     .subst e;simp
     .have e':¬k=p.1:=λq=>e q.symm;rw [jk e,cond_false,k3];simp [e']
   .cases hr
  .cases hr
theorem bd.ai8 {ob:Nat->HO} {X:List Atom} {sel:List (Option Nat)}:∀ {H3:List HO} {k:Nat} {h:Hp},sel.length=H3.length->
  (∀ i l o,sel[i]?=some (some l)->H3[i]?=some o->∀ h,(cF E2 l (ob l)).sat g h->(cF E3 (k+i) o).sat g h)->(∀ i o,sel[i]?=some none->H3[i]?=some o->(cF E3 (k+i) o).sat g λ_=>none)->
  bd g (YL E2 ob (sel.filterMap id)++X) h->bd g (a8 E3 k H3++X) h:=by
 induction sel with
 | nil=>
  intro H3 k h hl _ _ s;obtain rfl:=bB hl.symm;exact s
 | cons q sel ih=>
  intro H3 k h hl h1 h2 s;obtain ⟨o,H4,rfl⟩:∃ o H4,H3=o::H4:=by
   cases H3 with
   | nil=>cases hl
   | cons o H4=>exact ⟨o,H4,rfl⟩
  have h1':∀ i l o,sel[i]?=some (some l)->H4[i]?=some o->∀ h,(cF E2 l (ob l)).sat g h->(cF E3 (k+1+i) o).sat g h:=λi l o' a1 a2 hh sat=>by
   have:=h1 (i+1) l o' (by simpa using a1) (by simpa using a2) hh sat
   rw [show k+1+i=k+(i+1) by omega];exact this
  have h2':∀ i o,sel[i]?=some none->H4[i]?=some o->(cF E3 (k+1+i) o).sat g λ_=>none:=λi o' a1 a2=>by
   have:=h2 (i+1) o' (by simpa using a1) (by simpa using a2);rw [show k+1+i=k+(i+1) by omega];exact this
  cases q with
  | none=>exact ⟨λ_=>none,h,λ_=>.inl rfl,by funext b;rfl,h2 0 o rfl rfl,ih (by simpa using hl) h1' h2' s⟩
  | some l=>
   have s:bd g (cF E2 l (ob l)::(YL E2 ob (sel.filterMap id)++X)) h:=s;obtain ⟨p1,p2,ap,e,s1,s2⟩:=s;exact ⟨p1,p2,ap,e,h1 0 l o rfl rfl p1 s1,ih (by simpa using hl) h1' h2' s2⟩
end
section
variable {n n0:Nat} {W:cV} {F:List Atom} {b:Bs} {E E2:Env} {g w:World} {s':Ov} {a:Act}
theorem HQ:∀ {l:List HO} {k i:Nat} {o:HO},l[i]?=some o->gF (HS k l) (k+i)=some o
 | [],_,_,_,h=>by simp at h
 | x::r,k,0,o,h=>by
  obtain rfl:x=o:=by simpa using h
  simp [HS,gF]
 | x::r,k,i+1,o,h=>by
  have:=HQ (l:=r) (k:=k+1) (i:=i) (by simpa using h);rw [show k+(i+1)=k+1+i by omega];simp only [HS,gF];rw [jk (show ¬k=k+1+i by omega)];exact this
theorem wm:∀ {l:List HO} {k j:Nat},j< k\/k+l.length<=j->gF (HS k l) j=none
 | [],_,_,_=>rfl
 | x::r,k,j,h=>by
  simp only [HS,gF];rw [jk (show ¬k=j by simp at h;omega)];exact wm (by simp at h;omega)
theorem C6:∀ {us:List Nat} {j:Nat},gF (us.map λl=>(l,HO.gone)) j=if j∈us then some .gone else none
 | [],_=>by simp [gF]
 | u::r,j=>by
  simp only [cw,gF];by_cases e:u=j;subst e;simp
  .have e':¬j=u:=λq=>e q.symm;rw [jk e,cond_false,C6];simp [e']
theorem CY {an:xI} {ks us0:List Nat} {k:an.den->Prop} (S:df n W F b E2 g w s' a) (he:bu E E2) (hl:E.length=n0) (xL:Old n0 b) (hb:∀ t∈ks,gg b.f t=none) (hv:P1 an ks n0 us0 b s' k):
  ∃ i,k i/\∃ E3,bu E E3/\df n W F b E3 g w (lY an us0 n0 i) a:=by
 unfold P1 at hv;split at hv
 .rename_i x u y v hx hy;obtain ⟨hm,hv⟩:=dc hv;unfold agy at hm;simp only [ao] at hm;obtain ⟨⟨⟨⟨m1,m2⟩,m3⟩,m4⟩,m5⟩:=hm;have hEl:E.length<=E2.length:=by
   rcases eT E2.length E.length with h| h
   .have:=he _ _ (aq h);rw [gU (aG _)] at this;cases this
   .exact h
  have hs:n0<=s'.n:=by rw [<-S.len,<-hl];exact hEl
  have Am:∀ j∈an.yR.map (·.1),j< n0/\j ∉ us0:=λj hj=>by
   have:=bo.1 m3 j hj;simp only [ao,cY] at this;refine ⟨by simpa using this.1,λh=>?_⟩;rw [gz.2 h] at this;cases this.2
  obtain ⟨q1,e1,n1,k1⟩:=Mf S xL.len hx;obtain ⟨q2,e2,n2,k2,k3⟩:=S5 S xL.len hs (λp hp=>(Am p.1 (List.mem_map_of_mem hp)).1) hy;refine ⟨(x,y),hv,?_⟩;generalize hqs:q1++q2=qs;let E3:Env:=E++qs.map (·.2);have kept:Kept n0 E2 E3:=λl h=>by
   have h1:l< E.length:=by omega
   show (E++qs.map (·.2))[l]?=_;rw [bF h1,aq h1];exact (he _ _ (aq h1)).symm
  have uV:At E3 n0 qs:=λj q hq=>by
   show (E++qs.map (·.2))[n0+j]?=_;rw [bD (by omega),dj,show n0+j - E.length=j by omega,hq];rfl
  have uJ:k8 E2 b s' qs (oH an n0 (x,y)):=by
   rw [<-hqs];exact (n1 n0).app (n2 _)
  have aqq:At E3 n0 q1:=by rw [<-hqs] at uV;exact uV.left
  have aqp:At E3 (n0+(jF an.jL x n0).2.length) q2:=by
   rw [<-hqs] at uV
   rw [<-(n1 n0).len];exact uV.right
  have eD:∀ j,b.obj (lY an us0 n0 (x,y)) j=match gF (HS n0 (oH an n0 (x,y))) j with
    | some o=>o
    | none=>match gF (mq an.yR y (n0+(jF an.jL x n0).2.length)).1 j with
     | some o=>o
     | none=>if j∈us0 then .gone else lF b.h j:=λj=>by
   unfold Bs.obj lY;simp only;rw [n5,n5,C6];cases gF (HS n0 (oH an n0 (x,y))) j with
   | some o=>rfl
   | none=>
    cases gF (mq an.yR y (n0+(jF an.jL x n0).2.length)).1 j with
    | some o=>rfl
    | none=>by_cases h:j∈us0<;>simp [h]
  have hold:∀ j,j< n0->j ∉ us0->j ∉ an.yR.map (·.1)->b.obj s' j=lF b.h j:=λj h1 h2 h3=>by
   unfold Bs.obj;rw [vQ];intro hj;obtain ⟨p,hp,e⟩:=bp.1 hj;have:=bo.1 m5 p hp;simp only [kq] at this;rw [e] at this;rcases this with (h| h)| h
   .have:n0<=j:=by simpa using h
    omega
   .exact h3 (gz.1 h)
   .exact h2 (gz.1 h)
  refine ⟨E3,bu.app E _,S.size,S.defers,λt sv ht=>?_,⟨?_,?_⟩,λl Al=>?_⟩
  .-- the frame
   unfold Bs.slot lY at ht;simp only at ht;cases h1:gg (jF an.jL x n0).1 t with
   | some u'=>
    rw [h1] at ht;obtain rfl:=aj ht;exact k1 n0 E3 kept aqq t _ h1
   | none=>
    rw [h1] at ht;have ht:gg b.f t=some sv:=ht;have htk:t ∉ ks:=λh=>by rw [hb t h] at ht;cases ht
    have Eg:b.slot s' t=some sv:=by
     unfold Bs.slot;have:gg s'.f t=none:=by
      cases h2:gg s'.f t with
      | none=>rfl
      | some z=>
       exfalso
       have key:∀ {L:Ay},gg L t=some z->∃ p∈L,p.1=t:=by
        intro L
        induction L with
        | nil=>intro h;cases h
        | cons q L ih=>
         intro h;by_cases e:q.1=t;exact ⟨q,by simp,e⟩
         .obtain ⟨q0,q3⟩:=q;simp only [gg] at h;rw [jk e] at h;obtain ⟨p,hp,e⟩:=ih h;exact ⟨p,aI _ hp,e⟩
       obtain ⟨p,hp,e⟩:=key h2;have:=bo.1 m4 p hp;rw [e] at this;exact htk (gz.1 this)
     rw [this];exact ht
    exact (S.fr t sv Eg).jH λl hlm=>kept l (xL.slot t sv ht l hlm)
  .-- what is owned
   refine S.sat.sl.cv λh sat=>?_;let sel:List (Option Nat):=(bQ n0).map (λl=>if l∈us0 then none else some l)++qs.map (·.1)
   have amX:sel.filterMap id=((bQ n0).filter λl=>decide (l ∉ us0))++AA qs:=by
    show List.filterMap id (_++_)=_;rw [List.filterMap_append,List.filterMap_map,List.filterMap_map];congr 1;have key:∀ L:List Nat,L.filterMap (id ∘ λl=>if l∈us0 then none else some l)=L.filter λl=>decide (l ∉ us0):=by
     intro L
     induction L with
     | nil=>rfl
     | cons l L ih=>
      rw [List.filterMap_cons,List.filter_cons,ih];by_cases hm:l∈us0<;>simp [hm]
    exact key _
   have amU:AA qs=u++v:=by rw [<-hqs,wH,e1,e2]
   have hnd:=jU.1 m1;rw [gv] at hnd;have yY:∀ l∈AA qs,l< s'.n:=λl hl=>by
    obtain ⟨q,hq,e⟩:=List.mem_filterMap.1 hl;obtain ⟨j,hj⟩:=List.getElem?_of_mem hq;have hlen:=uJ.len;have Ev:j< (oH an n0 (x,y)).length:=by rw [<-hlen];exact (aw.1 hj).1
    rcases uJ.get hj (aq Ev) with ⟨l',o',p1,p2,_⟩| ⟨p1,_⟩
    .rw [e] at p1;obtain rfl:=aj p1;exact S.lt p2
    .rw [e] at p1;cases p1
   have hls:(sel.filterMap id).Nodup:=by
    rw [amX,gv];refine ⟨List.nodup_range.filter _,by rw [amU];exact hnd.1,λp hp q hq e=>?_⟩;subst e;obtain ⟨hp1,hp2⟩:=gk.1 hp;rw [amU] at hq;have:=bo.1 m2 p hq;simp only [kq] at this;rcases this with h| h
    .have h1:n0<=p:=by simpa using h
     have h2:=dF.1 hp1;omega
    .have h1:=gz.1 h;simp [h1] at hp2
   have s1:=bd.qD (ob:=b.obj s') hls (λl hlm=>by
    rw [amX] at hlm;rcases aV.1 hlm with h| h
    .have:=dF.1 (gk.1 h).1;exact eL (by omega)
    .exact eL (yY l h)) sat
   have s2:=bd.YK s1;refine bd.ai8 (E2:=E2) (E3:=E3) (sel:=sel) (ob:=b.obj s') (k:=0) ?_ (λi l o hi ho hh xi=>?_) (λi o hi ho=>?_) s2
   .show ((bQ n0).map _++qs.map λq:Option Nat×Value=>q.1).length=_;rw [dW];show _=n0+(oH an n0 (x,y)).length;rw [af,bT,bT,List.length_range,uJ.len]
   .rw [gA];have ajX:i< (lY an us0 n0 (x,y)).n:=by
     have:=(aw.1 ho).1;rw [dW] at this;exact this
    rw [eL ajX] at ho;obtain rfl:=aj ho;by_cases Ew:i< n0
    .have hi2:((bQ n0).map (λl=>if l∈us0 then none else some l))[i]?=some (some l):=by
      rw [bF (by simpa using Ew)] at hi;exact hi
     rw [dj,List.getElem?_range Ew] at hi2;by_cases hu:i∈us0;simp [hu] at hi2
     .simp [hu] at hi2;subst hi2;rw [eD,wm (.inl Ew)];simp only;cases ho2:gF (mq an.yR y (n0+(jF an.jL x n0).2.length)).1 i with
      | some o=>exact k2 _ E3 kept aqp i o ho2 hh xi
      | none=>
       have hnk:=(k3 _ i).1 ho2;simp only [hu,if_false];rw [hold i Ew hu hnk] at xi
       exact cF.jH (λj hj=>kept j (xL.obj i j hj)) (kept i Ew) xi
    .have V8:(qs.map λq:Option Nat×Value=>q.1)[i - n0]?=some (some l):=by
      rw [bD (by simp;omega)] at hi;simpa using hi
     rw [dj] at V8;cases hq:qs[i - n0]? with
     | none=>rw [hq] at V8;cases V8
     | some q=>
      rw [hq] at V8;have hq1:q.1=some l:=by simpa using V8
      have Ev:i - n0< (oH an n0 (x,y)).length:=by rw [<-uJ.len];exact (aw.1 hq).1
      have kA:=uJ.get hq (aq Ev);rw [eD];have hz:=HQ (k:=n0) (aq Ev);rw [show n0+(i - n0)=i by omega] at hz;rw [hz];simp only;rcases kA with ⟨l',o',p1,p2,p3,p4,pm⟩| ⟨p1,_⟩
      .rw [hq1] at p1;obtain rfl:=aj p1;rw [p3] at xi
       rw [p4];have:=uV _ q hq;rw [show n0+(i - n0)=i by omega] at this;exact pm.sat p2 this xi
      .rw [hq1] at p1;cases p1
   .rw [gA];have ajX:i< (lY an us0 n0 (x,y)).n:=by
     have:=(aw.1 ho).1;rw [dW] at this;exact this
    rw [eL ajX] at ho;obtain rfl:=aj ho;by_cases Ew:i< n0
    .have hi2:((bQ n0).map (λl=>if l∈us0 then none else some l))[i]?=some none:=by
      rw [bF (by simpa using Ew)] at hi;exact hi
     rw [dj,List.getElem?_range Ew] at hi2;by_cases hu:i∈us0
     .rw [eD,wm (.inl Ew)];simp only;rw [(k3 _ i).2 λh=>(Am i h).2 hu];simp only [hu,if_true];trivial
     .simp [hu] at hi2
    .have V8:(qs.map λq:Option Nat×Value=>q.1)[i - n0]?=some none:=by
      rw [bD (by simp;omega)] at hi;simpa using hi
     rw [dj] at V8;cases hq:qs[i - n0]? with
     | none=>rw [hq] at V8;cases V8
     | some q=>
      rw [hq] at V8;have hq1:q.1=none:=by simpa using V8
      have Ev:i - n0< (oH an n0 (x,y)).length:=by rw [<-uJ.len];exact (aw.1 hq).1
      have kA:=uJ.get hq (aq Ev);rw [eD];have hz:=HQ (k:=n0) (aq Ev);rw [show n0+(i - n0)=i by omega] at hz;rw [hz];simp only;rcases kA with ⟨l',o',p1,_⟩| ⟨_,p2,t,e',p4⟩;rw [hq1] at p1;cases p1
      .rw [p4];have:=uV _ q hq;rw [show n0+(i - n0)=i by omega,p2] at this;exact ⟨_,this,[],trivial,by simp,.inl ⟨rfl,rfl⟩⟩
  .rw [dW];show (E++qs.map (·.2)).length=n0+(oH an n0 (x,y)).length;rw [af,bT,hl,uJ.len]
  .rw [eD];have Al:n0+(oH an n0 (x,y)).length<=l:=Al;rw [wm (.inr Al)];simp only;rw [(k3 _ l).2 λh=>by have:=(Am l h).1;omega];simp only;split
   .rfl
   .exact nZ (by rw [xL.len];omega)
 .exact hv.elim
end
end Go.Lm

