/- Texts of mine, laid together: I10 I11 I12 I13 LmKN LmZj I14 LmVzb KeyI LmZk LmZl I15 LmZm I16. -/
import Derived.Test.YthjbdgokcljocaaGreatDoorQ3
import Derived.Test.YthjbdgokcljocaaGreatDoorProg
import Derived.Test.YthjbdgokcljocaaGreatDoorChecked
import Derived.Test.YthjbdgokcljocaaGreatDoorQ1
import Derived.Lib.SplitLaws
import Derived.Lib.Split
import Derived.Lib.Join
import Derived.Laws.Concat
import Derived.Sort.KeysCollected
import Derived.Shelf.SlIterI.Sorted
import Derived.Lib.SlKeysI
set_option linter.unusedVariables false
open Bool renaming and_eq_true → ao, not_eq_true' → cY, false_eq_true → dQ, false_and → eO, or_eq_true → kq
open Int renaming toNat → ax, le_refl → bh, toNat_natCast → bL
open List renaming length_append → af, length_cons → av, length_singleton → aE, length_take → aF, mem_cons_of_mem → aI, take_of_length_le → aL, append_assoc → aM, mem_cons_self → aN, length_drop → aR, mem_append → aV, length_nil → aY, append_nil → bf, mem_cons → bm, mem_map → bp, eq_nil_of_length_eq_zero → bB, getElem?_append_left → bF, take_append_drop → bK, drop_eq_getElem_cons → bM, length_map → bT, mem_append_left → bW, take_succ_eq_append_getElem → bY, map_cons → cw, getD_eq_getElem?_getD → dh, flatten_cons → dz, getElem_mem → dA, cons_append → eH, drop_eq_nil_of_le → eJ, drop_drop → eN, take_length → fz, nodup_cons → gj, mem_filter → gk, nil_append → gS, map_congr_left → jy, drop_left → lR, drop_zero → o9, flatMap_cons → pd
open Nat renaming le_refl → aG, zero_le → cM, lt_or_ge → eT, add_mul → gR, min_eq_left → py
open Go.Proofs.Tryz renaming prog → cg
open UInt8 renaming ofNat → az, toNat → cz
noncomputable section
namespace Go.Proofs
open Go Go.Lm Go.RowKit
set_option maxRecDepth 1000000
def afo:List bN.den:=[(182,2,511,()),(183,2,2047,()),(184,2,2047,()),(185,2,1024,()),(186,4,4294967295,())]
def oS (k:Int):List bN.den:=if k=2 then [(187,4,4294967295,()),(188,2,4096,()),(189,2,1024,()),(190,1,127,())] else if k=1 then [(187,4,4294967295,()),(188,4,1048576,())] else []
def gV:List (Nat×Ty):=(227,bN)::(80,eA)::jA
def anY:Ct:=cP<| cO λH Q=>match H with
 | [.cells 80 [.k (.int .i64 k0),.k (.int .i64 mo),.k (.int .i64 ui),.k (.int .i64 gi),.k (.int .i64 lk),.k (.int .i64 xa),.k (.int .i64 st),.k (.int .i64 sz),.k (.int .i64 fr),.k (.int .i64 off),.k (.string tg)]]=>Q (.c (.p 0 1)) [.cells 80 [.k (.int .i64 k0),.k (.int .i64 mo),.k (.int .i64 ui),.k (.int .i64 gi),.k (.int .i64 lk),.k (.int .i64 xa),.k (.int .i64 st),.k (.int .i64 sz),.k (.int .i64 fr),.k (.int .i64 off),.k (.string tg)]]
 | _=>False
def acC:=aho.add zJ
def Yp (k0 mo ui gi lk xa st sz fr off:Int) (tg:ByteArray):dq:=λQ=>Q (SV.v (S1.c (.p 0 1))) [.cells 80 [.k (aC k0),.k (aC mo),.k (aC ui),.k (aC gi),.k (aC lk),.k (aC xa),.k (aC st),.k (aC sz),.k (aC fr),.k (aC off),.k (.string tg)]]
theorem amn:cq 182 anY:=eI<| rZ<| r5 λH Q h=>by
 split at h;rotate_left;cases h;rename_i k0 mo ui gi lk xa st sz fr off tg;refine Wp.dy acC gV ⟨[],[]⟩ Tryz.f182 (Yp k0 mo ui gi lk xa st sz fr off tg) ?_;unfold Yp aC;exact h
def anX:Ct:=cP<| cO λH Q=>match H with
 | [.cells 80 [.k (.int .i64 k0),.k (.int .i64 mo),.k (.int .i64 ui),.k (.int .i64 gi),.k (.int .i64 lk),.k (.int .i64 xa),.k (.int .i64 st),.k (.int .i64 sz),.k (.int .i64 fr),.k (.int .i64 off),.k (.string tg)]]=>Q (.c (.p 0 2)) [.cells 80 [.k (.int .i64 k0),.k (.int .i64 mo),.k (.int .i64 ui),.k (.int .i64 gi),.k (.int .i64 lk),.k (.int .i64 xa),.k (.int .i64 st),.k (.int .i64 sz),.k (.int .i64 fr),.k (.int .i64 off),.k (.string tg)]]
 | _=>False
def acB:=acC.add amn
def Yo (k0 mo ui gi lk xa st sz fr off:Int) (tg:ByteArray):dq:=λQ=>Q (SV.v (S1.c (.p 0 2))) [.cells 80 [.k (aC k0),.k (aC mo),.k (aC ui),.k (aC gi),.k (aC lk),.k (aC xa),.k (aC st),.k (aC sz),.k (aC fr),.k (aC off),.k (.string tg)]]
theorem amm:cq 183 anX:=eI<| rZ<| r5 λH Q h=>by
 split at h;rotate_left;cases h;rename_i k0 mo ui gi lk xa st sz fr off tg;refine Wp.dy acB gV ⟨[],[]⟩ Tryz.f183 (Yo k0 mo ui gi lk xa st sz fr off tg) ?_;unfold Yo aC;exact h
def anW:Ct:=cP<| cO λH Q=>match H with
 | [.cells 80 [.k (.int .i64 k0),.k (.int .i64 mo),.k (.int .i64 ui),.k (.int .i64 gi),.k (.int .i64 lk),.k (.int .i64 xa),.k (.int .i64 st),.k (.int .i64 sz),.k (.int .i64 fr),.k (.int .i64 off),.k (.string tg)]]=>Q (.c (.p 0 3)) [.cells 80 [.k (.int .i64 k0),.k (.int .i64 mo),.k (.int .i64 ui),.k (.int .i64 gi),.k (.int .i64 lk),.k (.int .i64 xa),.k (.int .i64 st),.k (.int .i64 sz),.k (.int .i64 fr),.k (.int .i64 off),.k (.string tg)]]
 | _=>False
def acA:=acB.add amm
def Yn (k0 mo ui gi lk xa st sz fr off:Int) (tg:ByteArray):dq:=λQ=>Q (SV.v (S1.c (.p 0 3))) [.cells 80 [.k (aC k0),.k (aC mo),.k (aC ui),.k (aC gi),.k (aC lk),.k (aC xa),.k (aC st),.k (aC sz),.k (aC fr),.k (aC off),.k (.string tg)]]
theorem aml:cq 184 anW:=eI<| rZ<| r5 λH Q h=>by
 split at h;rotate_left;cases h;rename_i k0 mo ui gi lk xa st sz fr off tg;refine Wp.dy acA gV ⟨[],[]⟩ Tryz.f184 (Yn k0 mo ui gi lk xa st sz fr off tg) ?_;unfold Yn aC;exact h
def anV:Ct:=cP<| cO λH Q=>match H with
 | [.cells 80 [.k (.int .i64 k0),.k (.int .i64 mo),.k (.int .i64 ui),.k (.int .i64 gi),.k (.int .i64 lk),.k (.int .i64 xa),.k (.int .i64 st),.k (.int .i64 sz),.k (.int .i64 fr),.k (.int .i64 off),.k (.string tg)]]=>Q (.c (.p 0 4)) [.cells 80 [.k (.int .i64 k0),.k (.int .i64 mo),.k (.int .i64 ui),.k (.int .i64 gi),.k (.int .i64 lk),.k (.int .i64 xa),.k (.int .i64 st),.k (.int .i64 sz),.k (.int .i64 fr),.k (.int .i64 off),.k (.string tg)]]
 | _=>False
def acz:=acA.add aml
def Ym (k0 mo ui gi lk xa st sz fr off:Int) (tg:ByteArray):dq:=λQ=>Q (SV.v (S1.c (.p 0 4))) [.cells 80 [.k (aC k0),.k (aC mo),.k (aC ui),.k (aC gi),.k (aC lk),.k (aC xa),.k (aC st),.k (aC sz),.k (aC fr),.k (aC off),.k (.string tg)]]
theorem amk:cq 185 anV:=eI<| rZ<| r5 λH Q h=>by
 split at h;rotate_left;cases h;rename_i k0 mo ui gi lk xa st sz fr off tg;refine Wp.dy acz gV ⟨[],[]⟩ Tryz.f185 (Ym k0 mo ui gi lk xa st sz fr off tg) ?_;unfold Ym aC;exact h
def anU:Ct:=cP<| cO λH Q=>match H with
 | [.cells 80 [.k (.int .i64 k0),.k (.int .i64 mo),.k (.int .i64 ui),.k (.int .i64 gi),.k (.int .i64 lk),.k (.int .i64 xa),.k (.int .i64 st),.k (.int .i64 sz),.k (.int .i64 fr),.k (.int .i64 off),.k (.string tg)]]=>Q (.c (.p 0 5)) [.cells 80 [.k (.int .i64 k0),.k (.int .i64 mo),.k (.int .i64 ui),.k (.int .i64 gi),.k (.int .i64 lk),.k (.int .i64 xa),.k (.int .i64 st),.k (.int .i64 sz),.k (.int .i64 fr),.k (.int .i64 off),.k (.string tg)]]
 | _=>False
def acy:=acz.add amk
def Yl (k0 mo ui gi lk xa st sz fr off:Int) (tg:ByteArray):dq:=λQ=>Q (SV.v (S1.c (.p 0 5))) [.cells 80 [.k (aC k0),.k (aC mo),.k (aC ui),.k (aC gi),.k (aC lk),.k (aC xa),.k (aC st),.k (aC sz),.k (aC fr),.k (aC off),.k (.string tg)]]
theorem amj:cq 186 anU:=eI<| rZ<| r5 λH Q h=>by
 split at h;rotate_left;cases h;rename_i k0 mo ui gi lk xa st sz fr off tg;refine Wp.dy acy gV ⟨[],[]⟩ Tryz.f186 (Yl k0 mo ui gi lk xa st sz fr off tg) ?_;unfold Yl aC;exact h
def anT:Ct:=cP<| cO λH Q=>match H with
 | [.cells 80 [.k (.int .i64 k0),.k (.int .i64 mo),.k (.int .i64 ui),.k (.int .i64 gi),.k (.int .i64 lk),.k (.int .i64 xa),.k (.int .i64 st),.k (.int .i64 sz),.k (.int .i64 fr),.k (.int .i64 off),.k (.string tg)]]=>Q (.c (.p 0 6)) [.cells 80 [.k (.int .i64 k0),.k (.int .i64 mo),.k (.int .i64 ui),.k (.int .i64 gi),.k (.int .i64 lk),.k (.int .i64 xa),.k (.int .i64 st),.k (.int .i64 sz),.k (.int .i64 fr),.k (.int .i64 off),.k (.string tg)]]
 | _=>False
def acx:=acy.add amj
def Yk (k0 mo ui gi lk xa st sz fr off:Int) (tg:ByteArray):dq:=λQ=>Q (SV.v (S1.c (.p 0 6))) [.cells 80 [.k (aC k0),.k (aC mo),.k (aC ui),.k (aC gi),.k (aC lk),.k (aC xa),.k (aC st),.k (aC sz),.k (aC fr),.k (aC off),.k (.string tg)]]
theorem ami:cq 187 anT:=eI<| rZ<| r5 λH Q h=>by
 split at h;rotate_left;cases h;rename_i k0 mo ui gi lk xa st sz fr off tg;refine Wp.dy acx gV ⟨[],[]⟩ Tryz.f187 (Yk k0 mo ui gi lk xa st sz fr off tg) ?_;unfold Yk aC;exact h
def anS:Ct:=cP<| cO λH Q=>match H with
 | [.cells 80 [.k (.int .i64 k0),.k (.int .i64 mo),.k (.int .i64 ui),.k (.int .i64 gi),.k (.int .i64 lk),.k (.int .i64 xa),.k (.int .i64 st),.k (.int .i64 sz),.k (.int .i64 fr),.k (.int .i64 off),.k (.string tg)]]=>Q (.c (.p 0 7)) [.cells 80 [.k (.int .i64 k0),.k (.int .i64 mo),.k (.int .i64 ui),.k (.int .i64 gi),.k (.int .i64 lk),.k (.int .i64 xa),.k (.int .i64 st),.k (.int .i64 sz),.k (.int .i64 fr),.k (.int .i64 off),.k (.string tg)]]
 | _=>False
def acw:=acx.add ami
def Yj (k0 mo ui gi lk xa st sz fr off:Int) (tg:ByteArray):dq:=λQ=>Q (SV.v (S1.c (.p 0 7))) [.cells 80 [.k (aC k0),.k (aC mo),.k (aC ui),.k (aC gi),.k (aC lk),.k (aC xa),.k (aC st),.k (aC sz),.k (aC fr),.k (aC off),.k (.string tg)]]
theorem amh:cq 188 anS:=eI<| rZ<| r5 λH Q h=>by
 split at h;rotate_left;cases h;rename_i k0 mo ui gi lk xa st sz fr off tg;refine Wp.dy acw gV ⟨[],[]⟩ Tryz.f188 (Yj k0 mo ui gi lk xa st sz fr off tg) ?_;unfold Yj aC;exact h
def anR:Ct:=cP<| cO λH Q=>match H with
 | [.cells 80 [.k (.int .i64 k0),.k (.int .i64 mo),.k (.int .i64 ui),.k (.int .i64 gi),.k (.int .i64 lk),.k (.int .i64 xa),.k (.int .i64 st),.k (.int .i64 sz),.k (.int .i64 fr),.k (.int .i64 off),.k (.string tg)]]=>Q (.c (.p 0 8)) [.cells 80 [.k (.int .i64 k0),.k (.int .i64 mo),.k (.int .i64 ui),.k (.int .i64 gi),.k (.int .i64 lk),.k (.int .i64 xa),.k (.int .i64 st),.k (.int .i64 sz),.k (.int .i64 fr),.k (.int .i64 off),.k (.string tg)]]
 | _=>False
def acv:=acw.add amh
def Yi (k0 mo ui gi lk xa st sz fr off:Int) (tg:ByteArray):dq:=λQ=>Q (SV.v (S1.c (.p 0 8))) [.cells 80 [.k (aC k0),.k (aC mo),.k (aC ui),.k (aC gi),.k (aC lk),.k (aC xa),.k (aC st),.k (aC sz),.k (aC fr),.k (aC off),.k (.string tg)]]
theorem amg:cq 189 anR:=eI<| rZ<| r5 λH Q h=>by
 split at h;rotate_left;cases h;rename_i k0 mo ui gi lk xa st sz fr off tg;refine Wp.dy acv gV ⟨[],[]⟩ Tryz.f189 (Yi k0 mo ui gi lk xa st sz fr off tg) ?_;unfold Yi aC;exact h
def anQ:Ct:=cP<| cO λH Q=>match H with
 | [.cells 80 [.k (.int .i64 k0),.k (.int .i64 mo),.k (.int .i64 ui),.k (.int .i64 gi),.k (.int .i64 lk),.k (.int .i64 xa),.k (.int .i64 st),.k (.int .i64 sz),.k (.int .i64 fr),.k (.int .i64 off),.k (.string tg)]]=>Q (.c (.p 0 9)) [.cells 80 [.k (.int .i64 k0),.k (.int .i64 mo),.k (.int .i64 ui),.k (.int .i64 gi),.k (.int .i64 lk),.k (.int .i64 xa),.k (.int .i64 st),.k (.int .i64 sz),.k (.int .i64 fr),.k (.int .i64 off),.k (.string tg)]]
 | _=>False
def acu:=acv.add amg
def Yh (k0 mo ui gi lk xa st sz fr off:Int) (tg:ByteArray):dq:=λQ=>Q (SV.v (S1.c (.p 0 9))) [.cells 80 [.k (aC k0),.k (aC mo),.k (aC ui),.k (aC gi),.k (aC lk),.k (aC xa),.k (aC st),.k (aC sz),.k (aC fr),.k (aC off),.k (.string tg)]]
theorem amf:cq 190 anQ:=eI<| rZ<| r5 λH Q h=>by
 split at h;rotate_left;cases h;rename_i k0 mo ui gi lk xa st sz fr off tg;refine Wp.dy acu gV ⟨[],[]⟩ Tryz.f190 (Yh k0 mo ui gi lk xa st sz fr off tg) ?_;unfold Yh aC;exact h
def abj:Ct:=c0 λQ=>Q (.c (.o 0)) [.sl 227 bN afo]
def acs:=acu.add amf
def FU:dq:=
 λQ=>Q eY [.sl 227 bN [((182:Nat),dm,(511:Int),()),((183:Nat),dm,(2047:Int),()),((184:Nat),dm,(2047:Int),()),((185:Nat),dm,(1024:Int),()),((186:Nat),cA,(4294967295:Int),())]]
theorem X2:cq 135 abj:=eI<| gx λQ h=>by
 refine Wp.dy acs gV ⟨[],[]⟩ Tryz.f135 FU ?_;unfold FU eY dm cA;exact h
def aa9:Ct:=cI λk=>c0 λQ=>Q (.c (.o 0)) [.sl 227 bN (oS k)]
def acr:=acs.add X2
def FM (k:Int):dq:=λQ=>aB .i64 k->br (k==2) (Q eY [.sl 227 bN [((187:Nat),cA,(4294967295:Int),()),((188:Nat),dm,(4096:Int),()),((189:Nat),dm,(1024:Int),()),((190:Nat),aW,(127:Int),())]]) (br (k== 
 1) (Q eY [.sl 227 bN [((187:Nat),cA,(4294967295:Int),()),((188:Nat),cA,(1048576:Int),())]]) (Q gW []))
theorem wx:cq 136 aa9:=eI<| nF λk=>gx λQ h=>by
 refine Wp.CU (t:=227) (e:=bN) ?_;refine Wp.dy acr gV ⟨[],[]⟩ Tryz.f136 (FM k) ?_;unfold FM gW eY dD aW dm cA;unfold oS at h;refine λ_=>ak (λhc=>.inl ?_) (λhc=>ak (λhd=>.inl ?_) (λhd=>.inr ⟨rfl,?_⟩))
 .grind
 .grind
 grind
def Ob:Ct
 | [.v (.c (.k (.string s))),.v (.c (.k (.int .u8 c)))],[],Q=>Q (.int (Lib.indexByte s.data.toList c.toNat.toUInt8)) []
 | _,_,_=>False
theorem Kv:cq 181 Ob:=by
 intro args H Q h;unfold Ob at h;split at h
 .rename_i s c;refine Wp.SZ (λE g w vs m hv=>?_) h;obtain ⟨u,v,rfl,⟨rfl,hs⟩,⟨rfl,_⟩⟩:=nW hv;refine (HM.of (Tryz.strings_IndexByte s c w)).mono λx w' ⟨h1,h2⟩=>⟨?_,by grind [Le.refl]⟩;rw [h1];refine dH ?_;have:=JC s.data.toList c.toNat.toUInt8;have hs':s.data.toList.length<=9223372036854775807:=by assumption
  grind [aB]
 grind
def Ow:Ct
 | [.v (.agg [.k (.int .i64 1),.k (.int .i64 mo),.k (.int .i64 ui),.k (.int .i64 gi),.k (.int .i64 lk),.k (.int .i64 xa),.k (.int .i64 st),.k (.int .i64 sz),.k (.int .i64 fr),.k (.int .i64 off),.k (.string tg)])],[],Q=>Ea mo ui gi lk xa/\UH st sz/\lk=1/\fr=0/\off=0/\tg=⟨#[]⟩/\Q (.bool true) []
 | _,_,_=>False
def acq:=(acr.add wx).add Kv
abbrev uP:=afo++oS aW
abbrev dv (y0:ByteArray) (R:Prop):=aJ (ByteArray.size y0)->R
abbrev nD:=aA bN uP ah
abbrev nC:=aA bN uP dG
abbrev nB:=aA bN uP dP
abbrev nA:=aA bN uP dY
abbrev nz:=aA bN uP eS
abbrev ny:=aA bN uP fT
abbrev nw:=aA bN uP lg
abbrev gZ:=ByteArray.mk #[]
def FK (mo ui gi lk xa st sz fr off:Int) (tg:ByteArray):dq:=λQ=>aB .i64 1->cr mo ui gi (cr lk xa st (cr sz fr off (dv tg ((168:Nat)<=cd/\kh<=eR/\(kh<=eR->mf (mf (Ty.ok bN nD->br (cL mo) (ba Q) (br 
 (decide (mo>nD.2.2.1)) (ba Q) (aB .i64 dG/\mh (mh (Ty.ok bN nC->br (cL ui) (ba Q) (br (decide (ui>nC.2.2.1)) (ba Q) (aB .i64 dP/\pT (pT (Ty.ok bN nB->br (cL gi) (ba Q) 
 (br (decide (gi>nB.2.2.1)) (ba Q) (aB .i64 dY/\pV (pV (Ty.ok bN nA->br (cL lk) (ba Q) (br (decide (lk>nA.2.2.1)) (ba Q) (aB .i64 eS/\fS (l9 (fS (l9 (Ty.ok bN nz->br 
 (cL xa) (ba Q) (br (decide (xa>nz.2.2.1)) (ba Q) (aB .i64 fT/\pX (pX (Ty.ok bN ny->br (cL st) (ba Q) (br (decide (st>ny.2.2.1)) (ba Q) (aB .i64 lg/\pY (pY (Ty.ok bN nw-> 
 br (cL sz) (ba Q) (br (decide (sz>nw.2.2.1)) (ba Q) (pG (br (!(aW==1&& (mo==mo&& (ui==ui&& (gi==gi&& (lk==lk&& (xa==xa&& (st==st&& (sz==sz&& (ah==fr&& (ah==off&& (j9 gZ tg&& 
 true)))))))))))) (ba Q) (br (decide (lk< 1)) (ba Q) (Q (.v (.c (.k (.bool (lk==1))))) []))))))))))))))))))))))))))))))))))))))
theorem KP:cq 134 Ow:=by
 intro args H Q h;unfold Ow at h;split at h;rotate_left;cases h;rename_i mo ui gi lk xa st sz fr off tg;refine Wp.dy acq gV ⟨[],[]⟩ Tryz.f134 (FK mo ui gi lk xa st sz fr off tg) (unr:=[(5,11)]) ?_;unfold FK gZ l9 pG nw ny nz nA nB nC nD mf dv cL mh ba pT dG pV fS pX eR pY dP lg dY fT cd eS uP cr iW ah aW aJ kh;obtain ⟨ff,hk,rfl,rfl,rfl,rfl,h⟩:=h;refine λ_ _ _ _ _ _ _ _ _ _ _=>⟨by decide,by decide,λ_=>?_⟩;refine ⟨by decide,by decide,by decide,by decide,λ_=>kF ff.q1.1 ff.q1.2 ⟨by unfold aB;decide,?_⟩⟩;refine ⟨by decide,by decide,by decide,by decide,λ_=>kF ff.q2.1 ff.q2.2 ⟨by unfold aB;decide,?_⟩⟩;refine ⟨by decide,by decide,by decide,by decide,λ_=>kF ff.q3.1 ff.q3.2 ⟨by unfold aB;decide,?_⟩⟩;refine ⟨by decide,by decide,by decide,by decide,λ_=>kF (by omega) (⟨by decide,by decide⟩:0<=(1:Int)/\(1:Int)<=1024).2 ⟨by unfold aB;decide,?_⟩⟩;refine ⟨by decide,by decide,by decide,by decide,λ_=>kF ff.q5.1 ff.q5.2 ⟨by unfold aB;decide,?_⟩⟩;refine ⟨by decide,by decide,by decide,by decide,λ_=>kF hk.r1.1 hk.r1.2 ⟨by unfold aB;decide,?_⟩⟩;refine ⟨by decide,by decide,by decide,by decide,λ_=>kF hk.r2.1 hk.r2.2 ⟨by unfold aB;decide,?_⟩⟩;rw [Qy]
 assumption
def Ou:Ct
 | [.v (.agg [.k (.int .i64 2),.k (.int .i64 mo),.k (.int .i64 ui),.k (.int .i64 gi),.k (.int .i64 lk),.k (.int .i64 xa),.k (.int .i64 st),.k (.int .i64 sz),.k (.int .i64 fr),.k (.int .i64 off),.k (.string tg)])],[],Q=>Ea mo ui gi lk xa/\zG st sz fr off/\tg=⟨#[]⟩/\Q (.bool true) []
 | _,_,_=>False
def acp:=acq.add KP
abbrev rR:=afo++oS dm
abbrev Gy (R:Prop):=aB .i64 (ah+1+1+1+1+1+1+1+1)/\ah<=ah+1+1+1+1+1+1+1+1/\ah+1+1+1+1+1+1+1+1< (↑iE:Int)/\ah<=ah+1+1+1+1+1+1+1+1/\ah+1+1+1+1+1+1+1+1< (↑iE:Int)/\R
abbrev Gx (R:Prop):=aB .i64 (ah+1+1+1+1+1+1+1)/\ah<=ah+1+1+1+1+1+1+1/\ah+1+1+1+1+1+1+1< (↑iE:Int)/\ah<=ah+1+1+1+1+1+1+1/\ah+1+1+1+1+1+1+1< (↑iE:Int)/\R
abbrev rK:=aA bN rR (ah+1+1+1+1+1+1+1+1)
abbrev wO (R:Prop):=ah<=ah+1+1+1+1+1+1/\ah+1+1+1+1+1+1< (↑iE:Int)/\R
abbrev rJ:=aA bN rR (ah+1+1+1+1+1+1+1)
abbrev wN (R:Prop):=ah<=ah+1+1+1+1+1/\ah+1+1+1+1+1< (↑iE:Int)/\R
abbrev qX (R:Prop):=ah<=ah+1+1+1/\ah+1+1+1< (↑iE:Int)/\R
abbrev yM (R:Prop):=aB .i64 dP/\ah<=ah+1+1/\ah+1+1< (↑iE:Int)/\ah<=ah+1+1/\ah+1+1< (↑iE:Int)/\R
abbrev yK (R:Prop):=aB .i64 dG/\ah<=ah+1/\ah+1< (↑iE:Int)/\ah<=ah+1/\ah+1< (↑iE:Int)/\R
abbrev yF (R:Prop):=iE<=eR->ah<=ah/\ah< (↑iE:Int)/\ah<=ah/\ah< (↑iE:Int)/\R
abbrev nv:=aA bN rR ah
abbrev nt:=aA bN rR dG
abbrev nr:=aA bN rR dP
abbrev nq:=aA bN rR dY
abbrev nk:=aA bN rR eS
abbrev nj:=aA bN rR fT
abbrev ni:=aA bN rR lg
abbrev yl (R:Prop):=aB .i64 (ah+1+1+1+1+1+1+1+1+1)/\R
def FJ (mo ui gi lk xa st sz fr off:Int) (tg:ByteArray):dq:=λQ=>aB .i64 2->cr mo ui gi (cr lk xa st (cr sz fr off (dv tg ((216:Nat)<=cd/\iE<=eR/\(yF (Ty.ok bN nv->br (cL mo) (ba Q) (br (decide (mo>nv.2.2.1)) 
 (ba Q) (yK (Ty.ok bN nt->br (cL ui) (ba Q) (br (decide (ui>nt.2.2.1)) (ba Q) (yM (Ty.ok bN nr->br (cL gi) (ba Q) (br (decide (gi>nr.2.2.1)) (ba Q) (aB .i64 dY/\qX (qX 
 (Ty.ok bN nq->br (cL lk) (ba Q) (br (decide (lk>nq.2.2.1)) (ba Q) (aB .i64 eS/\fS (ah+1+1+1+1< (↑iE:Int)/\fS (ah+1+1+1+1< (↑iE:Int)/\(Ty.ok bN nk->br (cL xa) 
 (ba Q) (br (decide (xa>nk.2.2.1)) (ba Q) (aB .i64 fT/\wN (wN (Ty.ok bN nj->br (cL st) (ba Q) (br (decide (st>nj.2.2.1)) (ba Q) (aB .i64 lg/\wO (wO (Ty.ok bN ni->br (cL 
 sz) (ba Q) (br (decide (sz>ni.2.2.1)) (ba Q) (Gx (Ty.ok bN rJ->br (cL fr) (ba Q) (br (decide (fr>rJ.2.2.1)) (ba Q) (Gy (Ty.ok bN rK->br (cL off) (ba Q) (br (decide (off>rK.2.2.1)) 
 (ba Q) (yl (br (!(dm==2&& (mo==mo&& (ui==ui&& (gi==gi&& (lk==lk&& (xa==xa&& (st==st&& (sz==sz&& (fr==fr&& (off==off&& (j9 gZ tg&& true)))))))))))) (ba Q) (br (decide (lk< 1)) (ba Q) 
 (bE≠ah/\(aB .i64 (Int.tmod sz bE)->br (decide (fr>0)==decide (Int.tmod sz bE>ah)) (br (decide (Int.tmod sz bE>ah)) (Q ml []) (Q (.v (.c (.k (.bool (off==0))))) [])) (ba 
 Q))))))))))))))))))))))))))))))))))))))))))
theorem KN:cq 134 Ou:=by
 intro args H Q h;unfold Ou at h;split at h;rotate_left;cases h;rename_i mo ui gi lk xa st sz fr off tg;refine Wp.dy acp gV ⟨[],[]⟩ Tryz.f134 (FJ mo ui gi lk xa st sz fr off tg) (unr:=[(5,11)]) ?_;unfold FJ yl gZ ni nj nk nq nr nt nv yF yK dv yM cL qX ba dG wN rJ wO rK fS Gx Gy eR dP lg dY fT cd eS rR cr iW ml ah bE dm aJ iE;obtain ⟨ff,hk,rfl,h⟩:=h;refine λ_ _ _ _ _ _ _ _ _ _ _=>⟨by decide,by decide,λ_=>?_⟩;refine ⟨by decide,by decide,by decide,by decide,λ_=>kF ff.q1.1 ff.q1.2 ⟨by unfold aB;decide,?_⟩⟩;refine ⟨by decide,by decide,by decide,by decide,λ_=>kF ff.q2.1 ff.q2.2 ⟨by unfold aB;decide,?_⟩⟩;refine ⟨by decide,by decide,by decide,by decide,λ_=>kF ff.q3.1 ff.q3.2 ⟨by unfold aB;decide,?_⟩⟩;refine ⟨by decide,by decide,by decide,by decide,λ_=>kF (⟨by have:=ff.q4.1;omega,ff.q4.2⟩:0<=(lk:Int)/\(lk:Int)<=1024).1 (⟨by have:=ff.q4.1;omega,ff.q4.2⟩:0<=(lk:Int)/\(lk:Int)<=1024).2 ⟨by unfold aB;decide,?_⟩⟩;refine ⟨by decide,by decide,by decide,by decide,λ_=>kF ff.q5.1 ff.q5.2 ⟨by unfold aB;decide,?_⟩⟩;refine ⟨by decide,by decide,by decide,by decide,λ_=>kF hk.r1.1 hk.r1.2 ⟨by unfold aB;decide,?_⟩⟩;refine ⟨by decide,by decide,by decide,by decide,λ_=>kF hk.r2.1 hk.r2.2 ⟨by unfold aB;decide,?_⟩⟩;refine ⟨by decide,by decide,by decide,by decide,λ_=>kF hk.r3.1 hk.r3.2 ⟨by unfold aB;decide,?_⟩⟩;refine ⟨by decide,by decide,by decide,by decide,λ_=>kF hk.r4.1 hk.r4.2 ⟨by unfold aB;decide,?_⟩⟩;rw [Qy];refine ak (λhc=>by cases hc) (λ_=>ak (λhc=>absurd (of_decide_eq_true hc) (by have:=ff.q4.1;omega)) (λ_=>?_));have ht:=hk.tail;have h0:=hk.r2.1;rw [Int.tmod_eq_emod_of_nonneg h0];refine ⟨by decide,λ_=>ak (λ_=>ak (λ_=>h) (λhd=>?_)) (λhc=>?_)⟩
 .have hd:=of_decide_eq_false hd;have:off=0:=by rcases ht.2 with a| a;exact absurd a (by omega);exact a
  subst this;exact h
 .refine absurd ?_ (by rw [hc];decide:¬((decide (fr>0)==decide (sz % 128>0))=true));rw [beq_iff_eq];exact decide_eq_decide.2 ht.1
def Ot:Ct
 | [.v (.agg [.k (.int .i64 3),.k (.int .i64 mo),.k (.int .i64 ui),.k (.int .i64 gi),.k (.int .i64 lk),.k (.int .i64 xa),.k (.int .i64 st),.k (.int .i64 sz),.k (.int .i64 fr),.k (.int .i64 off),.k (.string tg)])],[],Q=>Ea mo ui gi lk xa/\zF tg/\st=0/\sz=0/\fr=0/\off=0/\Q (.bool true) []
 | _,_,_=>False
def aco:=acp.add KN
abbrev zX:=afo++oS lh
abbrev qW (R:Prop):=ah<=ah+1+1+1/\ah+1+1+1< (↑kj:Int)/\R
abbrev yL (R:Prop):=aB .i64 dP/\ah<=ah+1+1/\ah+1+1< (↑kj:Int)/\ah<=ah+1+1/\ah+1+1< (↑kj:Int)/\R
abbrev yJ (R:Prop):=aB .i64 dG/\ah<=ah+1/\ah+1< (↑kj:Int)/\ah<=ah+1/\ah+1< (↑kj:Int)/\R
abbrev yE (R:Prop):=kj<=eR->ah<=ah/\ah< (↑kj:Int)/\ah<=ah/\ah< (↑kj:Int)/\R
abbrev IX (y0) (y1:SV->List HO->Prop):=aB .i64 (Lib.indexByte y0 (Nat.toUInt8 bx))->y1 (.v (.c (.k (.bool (decide (Lib.indexByte y0 (Nat.toUInt8 bx)< 0)))))) []
abbrev nh:=aA bN zX ah
abbrev ng:=aA bN zX dG
abbrev nf:=aA bN zX dP
abbrev nc:=aA bN zX dY
abbrev na:=aA bN zX eS
def FI (mo ui gi lk xa st sz fr off:Int) (tg:ByteArray):dq:=λQ=>aB .i64 3->cr mo ui gi (cr lk xa st (cr sz fr off (dv tg ((120:Nat)<=cd/\kj<=eR/\(yE (Ty.ok bN nh->br (cL mo) (ba Q) (br (decide (mo>nh.2.2.1)) 
 (ba Q) (yJ (Ty.ok bN ng->br (cL ui) (ba Q) (br (decide (ui>ng.2.2.1)) (ba Q) (yL (Ty.ok bN nf->br (cL gi) (ba Q) (br (decide (gi>nf.2.2.1)) (ba Q) (aB .i64 dY/\qW (qW 
 (Ty.ok bN nc->br (cL lk) (ba Q) (br (decide (lk>nc.2.2.1)) (ba Q) (aB .i64 eS/\fS (ah+1+1+1+1< (↑kj:Int)/\fS (ah+1+1+1+1< (↑kj:Int)/\(Ty.ok bN na->br (cL xa) 
 (ba Q) (br (decide (xa>na.2.2.1)) (ba Q) (aB .i64 fT/\br (!(lh==3&& (mo==mo&& (ui==ui&& (gi==gi&& (lk==lk&& (xa==xa&& (ah==st&& (ah==sz&& (ah==fr&& (ah==off&& (j9 tg tg&& 
 true)))))))))))) (ba Q) (br (decide (lk< 1)) (ba Q) (br (decide ((gQ tg)>ah)) (br (decide ((gQ tg)<=(200:Int))) (IX tg.data.toList Q) (ba Q)) (ba Q))))))))))))))))))))))))))
theorem KM:cq 134 Ot:=by
 intro args H Q h;unfold Ot at h;split at h;rotate_left;cases h;rename_i mo ui gi lk xa st sz fr off tg;refine Wp.dy aco gV ⟨[],[]⟩ Tryz.f134 (FI mo ui gi lk xa st sz fr off tg) (unr:=[(5,11)]) ?_;unfold FI na nc nf ng nh IX yE yJ dv yL cL qW ba dG gQ fS eR dP zX dY fT cd eS cr iW ah lh aJ bx kj;obtain ⟨ff,hk,rfl,rfl,rfl,rfl,h⟩:=h;refine λ_ _ _ _ _ _ _ _ _ _ _=>⟨by decide,by decide,λ_=>?_⟩;refine ⟨by decide,by decide,by decide,by decide,λ_=>kF ff.q1.1 ff.q1.2 ⟨by unfold aB;decide,?_⟩⟩;refine ⟨by decide,by decide,by decide,by decide,λ_=>kF ff.q2.1 ff.q2.2 ⟨by unfold aB;decide,?_⟩⟩;refine ⟨by decide,by decide,by decide,by decide,λ_=>kF ff.q3.1 ff.q3.2 ⟨by unfold aB;decide,?_⟩⟩;refine ⟨by decide,by decide,by decide,by decide,λ_=>kF (⟨by have:=ff.q4.1;omega,ff.q4.2⟩:0<=(lk:Int)/\(lk:Int)<=1024).1 (⟨by have:=ff.q4.1;omega,ff.q4.2⟩:0<=(lk:Int)/\(lk:Int)<=1024).2 ⟨by unfold aB;decide,?_⟩⟩;refine ⟨by decide,by decide,by decide,by decide,λ_=>kF ff.q5.1 ff.q5.2 ⟨by unfold aB;decide,?_⟩⟩;rw [Qy];refine ak (λhc=>by cases hc) (λ_=>ak (λhc=>absurd (of_decide_eq_true hc) (by have:=ff.q4.1;omega)) (λ_=>?_));refine ak (λ_=>ak (λ_=>λ_=>?_) (λhc=>absurd (of_decide_eq_false hc) (by have:=hk.len;omega))) (λhc=>absurd (of_decide_eq_false hc) (by have:=hk.len;omega));rw [show decide (Lib.indexByte tg.data.toList (Nat.toUInt8 0)< 0)=true from ajq hk.nul];exact h
def Ub:Ct
 | [.v (.agg ci)],[],Q=>(match eA.of ci with
  | some (i,[])=>o7 i/\Q (.bool true) []
  | _=>False)
 | _,_,_=>False
theorem adU:cq 134 Ub:=by
 intro args H Q h;unfold Ub at h;split at h;rotate_left
 .grind
 split at h;rotate_left
 .grind
 rename_i i hi;refine Wp.said (args':=[.v (.agg (eA.cells i))]) (by grind [bA.cE, Ji]) ?_;obtain ⟨k0,mo,ui,gi,lk,xa,st,sz,fr,off,tg,⟨⟩⟩:=i;obtain ⟨⟨hc,ho⟩,h⟩:=h;rcases ho with ⟨e,ho⟩| ⟨e,ho⟩| ⟨e,ho⟩
 .subst e;exact KP _ _ _ ⟨hc,ho.1,ho.2.1,ho.2.2.1,ho.2.2.2.1,ho.2.2.2.2,h⟩
 .subst e;exact KN _ _ _ ⟨hc,ho.1,ho.2,h⟩
 .subst e;exact KM _ _ _ ⟨hc,ho.1,ho.2.1,ho.2.2.1,ho.2.2.2.1,ho.2.2.2.2,h⟩
def Oq:Ct
 | [.v (.agg [.k (.int .i64 1),.k (.int .i64 mo),.k (.int .i64 ui),.k (.int .i64 gi),.k (.int .i64 lk),.k (.int .i64 xa),.k (.int .i64 st),.k (.int .i64 sz),.k (.int .i64 fr),.k (.int .i64 off),.k (.string tg)])],[],Q=>Ea mo ui gi lk xa/\UH st sz/\lk=1/\fr=0/\off=0/\tg=⟨#[]⟩/\Q (.cC [.c (.d .u8 (Y0 mo ui gi xa st sz)),.c (.k (.int .i64 0))]) []
 | _,_,_=>False
def acn:=(aco.add KM).add adU
abbrev SM (y0:Int) (y1:Int) (y2:Int) (y3:Int) (y4:Int) (y5:Int) (y6:Int):=[]++aH bH bH++aH a7 (aS y0)++aH a7 (aS y1)++aH a7 (aS y2)++aH a7 (aS y3)++aH cQ (aS y4)++aH cQ (aS y5)++aH cQ (aS y6)
abbrev pH (R:Prop):=ah=ah/\(aW<=aW/\aW<=cA)/\R
def FH (mo ui gi lk xa st sz fr off:Int) (tg:ByteArray):dq:=λQ=>aB .i64 1->cr mo ui gi (cr lk xa st (cr sz fr off (dv tg (o7 (aW,mo,ui,gi,lk,xa,st,sz,fr,off,tg,())/\pH ((ah<=aW/\aW< fb ^ bH)/\bx<=ku 
 /\(168:Nat)<=cd/\kh<=eR/\(kh<=eR->mf (mf (Ty.ok bN nD->bj ((aW<=nD.2.1/\nD.2.1<=4)/\(lB mo)/\bH<=ku/\aB .i64 dG/\mh (mh (Ty.ok bN nC->bj ((aW 
 <=nC.2.1/\nC.2.1<=4)/\(lB ui)/\List.length ([]++aH bH bH++aH a7 (aS mo))<=100000000000/\aB .i64 dP/\pT (pT (Ty.ok bN nB->bj ((aW<=nB.2.1/\nB.2.1<=4)/\(lB gi)/\ 
 List.length ([]++aH bH bH++aH a7 (aS mo)++aH a7 (aS ui))<=100000000000/\aB .i64 dY/\pV (pV (Ty.ok bN nA->bj ((aW<=nA.2.1/\nA.2.1<=4)/\(lB lk)/\List.length ([]++aH 
 bH bH++aH a7 (aS mo)++aH a7 (aS ui)++aH a7 (aS gi))<=100000000000/\aB .i64 eS/\fS (l9 (fS (l9 (Ty.ok bN nz->bj ((aW<=nz.2.1/\nz.2.1<=4)/\(oC xa)/\ 
 List.length ([]++aH bH bH++aH a7 (aS mo)++aH a7 (aS ui)++aH a7 (aS gi)++aH a7 (aS lk))<=100000000000/\aB .i64 fT/\pX (pX (Ty.ok bN ny->bj ((aW<=ny.2.1/\ 
 ny.2.1<=4)/\(oC st)/\List.length ([]++aH bH bH++aH a7 (aS mo)++aH a7 (aS ui)++aH a7 (aS gi)++aH a7 (aS lk)++aH cQ (aS xa))<=100000000000/\aB .i64 lg/\pY (pY 
 (Ty.ok bN nw->bj ((aW<=nw.2.1/\nw.2.1<=4)/\(oC sz)/\List.length ([]++aH bH bH++aH a7 (aS mo)++aH a7 (aS ui)++aH a7 (aS gi)++aH a7 (aS lk)++aH cQ (aS 
 xa)++aH cQ (aS st))<=100000000000/\pG (bj (List.length (SM mo ui gi lk xa st sz)<=100000000000/\(aJ (List.length (SM mo ui gi lk xa st sz))->aB .i64 0->Q (SV.cC [S1.c (Cl.d Ty.u8 (SM mo ui gi lk xa st 
 sz)),.c (.k aT)]) []))))))))))))))))))))))))))))))))
theorem KL:cq 84 Oq:=by
 intro args H Q h;unfold Oq at h;split at h;rotate_left;cases h;rename_i mo ui gi lk xa st sz fr off tg;refine Wp.kE [some (.sl .u8),none] [] ?_;refine Wp.dy acn gV ⟨[],[]⟩ Tryz.f84 (FH mo ui gi lk xa st sz fr off tg) (unr:=[(7,11)]) ?_;unfold FH oC l9 ku bj pG nw ny nz nA nB nC nD pH mf dv mh pT lB dG SM pV fS pX eR pY dP lg dY fT cd eS uP aT aS cr ah aW fb cA aJ bx bH a7 cQ kh;obtain ⟨ff,hk,rfl,rfl,rfl,rfl,h⟩:=h;refine λ_ _ _ _ _ _ _ _ _ _ _=>⟨⟨ff,.inl ⟨rfl,hk,rfl,rfl,rfl,rfl⟩⟩,rfl,⟨by decide,by decide⟩,⟨by decide,by decide⟩,by decide,by decide,by decide,λ_=>?_⟩;refine ⟨by decide,by decide,by decide,by decide,λ_=>⟨rfl,⟨by decide,by decide⟩,⟨ff.q1.1,by have:=ff.q1.2;omega⟩,by decide,by unfold aB;decide,?_⟩⟩;refine ⟨by decide,by decide,by decide,by decide,λ_=>⟨rfl,⟨by decide,by decide⟩,⟨ff.q2.1,by have:=ff.q2.2;omega⟩,(by simp only [af,aD,aY];decide),by unfold aB;decide,?_⟩⟩;refine ⟨by decide,by decide,by decide,by decide,λ_=>⟨rfl,⟨by decide,by decide⟩,⟨ff.q3.1,by have:=ff.q3.2;omega⟩,(by simp only [af,aD,aY];decide),by unfold aB;decide,?_⟩⟩;refine ⟨by decide,by decide,by decide,by decide,λ_=>⟨rfl,⟨by decide,by decide⟩,⟨(⟨by decide,by decide⟩:0<=(1:Int)/\(1:Int)<=1024).1,by have:=(⟨by decide,by decide⟩:0<=(1:Int)/\(1:Int)<=1024).2;show _< (65536:Int);omega⟩,(by simp only [af,aD,aY];decide),by unfold aB;decide,?_⟩⟩;refine ⟨by decide,by decide,by decide,by decide,λ_=>⟨rfl,⟨by decide,by decide⟩,⟨ff.q5.1,by have:=ff.q5.2;show _< (4294967296:Int);omega⟩,(by simp only [af,aD,aY];decide),by unfold aB;decide,?_⟩⟩;refine ⟨by decide,by decide,by decide,by decide,λ_=>⟨rfl,⟨by decide,by decide⟩,⟨hk.r1.1,by have:=hk.r1.2;show _< (4294967296:Int);omega⟩,(by simp only [af,aD,aY];decide),by unfold aB;decide,?_⟩⟩;refine ⟨by decide,by decide,by decide,by decide,λ_=>⟨rfl,⟨by decide,by decide⟩,⟨hk.r2.1,by have:=hk.r2.2;show _< (4294967296:Int);omega⟩,(by simp only [af,aD,aY];decide),by unfold aB;decide,?_⟩⟩;refine ⟨rfl,(by simp only [af,aD,aY];decide),λ_ _=>?_⟩;exact ⟨aG _,h⟩
def Oo:Ct
 | [.v (.agg [.k (.int .i64 2),.k (.int .i64 mo),.k (.int .i64 ui),.k (.int .i64 gi),.k (.int .i64 lk),.k (.int .i64 xa),.k (.int .i64 st),.k (.int .i64 sz),.k (.int .i64 fr),.k (.int .i64 off),.k (.string tg)])],[],Q=>Ea mo ui gi lk xa/\zG st sz fr off/\tg=⟨#[]⟩/\Q (.cC [.c (.d .u8 (YZ mo ui gi lk xa st sz fr off)),.c (.k (.int .i64 0))]) []
 | _,_,_=>False
def acm:=acn.add KL
def FG (mo ui gi lk xa st sz fr off:Int) (tg:ByteArray):dq:=λQ=>aB .i64 2->cr mo ui gi (cr lk xa st (cr sz fr off (dv tg (o7 (dm,mo,ui,gi,lk,xa,st,sz,fr,off,tg,())/\pH ((ah<=dm/\dm< fb ^ bH)/\bx<=ku 
 /\(216:Nat)<=cd/\iE<=eR/\(yF (Ty.ok bN nv->bj ((aW<=nv.2.1/\nv.2.1<=4)/\(lB mo)/\bH<=ku/\yK (Ty.ok bN nt->bj ((aW<=nt.2.1/\nt.2.1<=4)/\(lB ui)/\ 
 List.length ([]++aH bH a7++aH a7 (aS mo))<=100000000000/\yM (Ty.ok bN nr->bj ((aW<=nr.2.1/\nr.2.1<=4)/\(lB gi)/\List.length ([]++aH bH a7++aH a7 (aS mo)++aH 
 a7 (aS ui))<=100000000000/\aB .i64 dY/\qX (qX (Ty.ok bN nq->bj ((aW<=nq.2.1/\nq.2.1<=4)/\(lB lk)/\List.length ([]++aH bH a7++aH a7 (aS mo)++aH a7 (aS ui)++ 
 aH a7 (aS gi))<=100000000000/\aB .i64 eS/\fS (ah+1+1+1+1< (↑iE:Int)/\fS (ah+1+1+1+1< (↑iE:Int)/\(Ty.ok bN nk->bj ((aW<=nk.2.1/\nk.2.1<=4)/\(oC xa)/\ 
 List.length ([]++aH bH a7++aH a7 (aS mo)++aH a7 (aS ui)++aH a7 (aS gi)++aH a7 (aS lk))<=100000000000/\aB .i64 fT/\wN (wN (Ty.ok bN nj->bj ((aW<=nj.2.1/\ 
 nj.2.1<=4)/\(oC st)/\List.length ([]++aH bH a7++aH a7 (aS mo)++aH a7 (aS ui)++aH a7 (aS gi)++aH a7 (aS lk)++aH cQ (aS xa))<=100000000000/\aB .i64 lg/\wO (wO 
 (Ty.ok bN ni->bj ((aW<=ni.2.1/\ni.2.1<=4)/\(lB sz)/\List.length ([]++aH bH a7++aH a7 (aS mo)++aH a7 (aS ui)++aH a7 (aS gi)++aH a7 (aS lk)++aH cQ (aS 
 xa)++aH cQ (aS st))<=100000000000/\Gx (Ty.ok bN rJ->bj ((aW<=rJ.2.1/\rJ.2.1<=4)/\(lB fr)/\List.length ([]++aH bH a7++aH a7 (aS mo)++aH a7 (aS ui)++aH a7 (aS 
 gi)++aH a7 (aS lk)++aH cQ (aS xa)++aH cQ (aS st)++aH a7 (aS sz))<=100000000000/\Gy (Ty.ok bN rK->bj ((aW<=rK.2.1/\rK.2.1<=4)/\(0<=off/\off< 256 ^ bH)/\List.length 
 ([]++aH bH a7++aH a7 (aS mo)++aH a7 (aS ui)++aH a7 (aS gi)++aH a7 (aS lk)++aH cQ (aS xa)++aH cQ (aS st)++aH a7 (aS sz)++aH a7 (aS fr))<=100000000000 
 /\yl (bj (List.length ([]++aH bH a7++aH a7 (aS mo)++aH a7 (aS ui)++aH a7 (aS gi)++aH a7 (aS lk)++aH cQ (aS xa)++aH cQ (aS st)++aH a7 (aS sz)++aH 
 a7 (aS fr)++aH bH (aS off))<=100000000000/\(aJ (List.length ([]++aH bH a7++aH a7 (aS mo)++aH a7 (aS ui)++aH a7 (aS gi)++aH a7 (aS lk)++aH cQ (aS xa)++aH 
 cQ (aS st)++aH a7 (aS sz)++aH a7 (aS fr)++aH bH (aS off)))->aB .i64 0->Q (SV.cC [S1.c (Cl.d Ty.u8 ([]++aH bH a7++aH a7 (aS mo)++aH a7 (aS ui)++aH a7 (aS gi)++ 
 aH a7 (aS lk)++aH cQ (aS xa)++aH cQ (aS st)++aH a7 (aS sz)++aH a7 (aS fr)++aH bH (aS off))),.c (.k aT)]) []))))))))))))))))))))))))))))))))
theorem KK:cq 84 Oo:=by
 intro args H Q h;unfold Oo at h;split at h;rotate_left;cases h;rename_i mo ui gi lk xa st sz fr off tg;refine Wp.kE [some (.sl .u8),none] [] ?_;refine Wp.dy acm gV ⟨[],[]⟩ Tryz.f84 (FG mo ui gi lk xa st sz fr off tg) (unr:=[(7,11)]) ?_;unfold FG yl oC ku bj ni nj nk nq nr nt nv pH yF yK dv yM qX lB dG wN rJ wO rK fS Gx Gy eR dP lg dY fT cd eS rR aT aS cr ah aW dm fb cA aJ bx bH a7 cQ iE;obtain ⟨ff,hk,rfl,h⟩:=h;refine λ_ _ _ _ _ _ _ _ _ _ _=>⟨⟨ff,.inr (.inl ⟨rfl,hk,rfl⟩)⟩,rfl,⟨by decide,by decide⟩,⟨by decide,by decide⟩,by decide,by decide,by decide,λ_=>?_⟩;refine ⟨by decide,by decide,by decide,by decide,λ_=>⟨rfl,⟨by decide,by decide⟩,⟨ff.q1.1,by have:=ff.q1.2;omega⟩,by decide,by unfold aB;decide,?_⟩⟩;refine ⟨by decide,by decide,by decide,by decide,λ_=>⟨rfl,⟨by decide,by decide⟩,⟨ff.q2.1,by have:=ff.q2.2;omega⟩,(by simp only [af,aD,aY];decide),by unfold aB;decide,?_⟩⟩;refine ⟨by decide,by decide,by decide,by decide,λ_=>⟨rfl,⟨by decide,by decide⟩,⟨ff.q3.1,by have:=ff.q3.2;show _< (65536:Int);omega⟩,(by simp only [af,aD,aY];decide),by unfold aB;decide,?_⟩⟩;refine ⟨by decide,by decide,by decide,by decide,λ_=>⟨rfl,⟨by decide,by decide⟩,⟨(⟨by have:=ff.q4.1;omega,ff.q4.2⟩:0<=(lk:Int)/\(lk:Int)<=1024).1,by have:=(⟨by have:=ff.q4.1;omega,ff.q4.2⟩:0<=(lk:Int)/\(lk:Int)<=1024).2;show _< (65536:Int);omega⟩,(by simp only [af,aD,aY];decide),by unfold aB;decide,?_⟩⟩;refine ⟨by decide,by decide,by decide,by decide,λ_=>⟨rfl,⟨by decide,by decide⟩,⟨ff.q5.1,by have:=ff.q5.2;show _< (4294967296:Int);omega⟩,(by simp only [af,aD,aY];decide),by unfold aB;decide,?_⟩⟩;refine ⟨by decide,by decide,by decide,by decide,λ_=>⟨rfl,⟨by decide,by decide⟩,⟨hk.r1.1,by have:=hk.r1.2;show _< (4294967296:Int);omega⟩,(by simp only [af,aD,aY];decide),by unfold aB;decide,?_⟩⟩;refine ⟨by decide,by decide,by decide,by decide,λ_=>⟨rfl,⟨by decide,by decide⟩,⟨hk.r2.1,by have:=hk.r2.2;show _< (65536:Int);omega⟩,(by simp only [af,aD,aY];decide),by unfold aB;decide,?_⟩⟩;refine ⟨by decide,by decide,by decide,by decide,λ_=>⟨rfl,⟨by decide,by decide⟩,⟨hk.r3.1,by have:=hk.r3.2;show _< (65536:Int);omega⟩,(by simp only [af,aD,aY];decide),by unfold aB;decide,?_⟩⟩;refine ⟨by decide,by decide,by decide,by decide,λ_=>⟨rfl,⟨by decide,by decide⟩,⟨hk.r4.1,by have:=hk.r4.2;show _< (256:Int);omega⟩,(by simp only [af,aD,aY];decide),by unfold aB;decide,?_⟩⟩;refine ⟨rfl,(by simp only [af,aD,aY];decide),λ_ _=>?_⟩;exact ⟨aG _,h⟩
def On:Ct
 | [.v (.agg [.k (.int .i64 3),.k (.int .i64 mo),.k (.int .i64 ui),.k (.int .i64 gi),.k (.int .i64 lk),.k (.int .i64 xa),.k (.int .i64 st),.k (.int .i64 sz),.k (.int .i64 fr),.k (.int .i64 off),.k (.string tg)])],[],Q=>Ea mo ui gi lk xa/\zF tg/\st=0/\sz=0/\fr=0/\off=0/\Q (.cC [.c (.d .u8 (VC mo ui gi lk xa tg)),.c (.k (.int .i64 0))]) []
 | _,_,_=>False
def DY:=acm.add KK
abbrev SK (y0:Int) (y1:Int) (y2:Int) (y3:Int) (y4:Int) (y5:ByteArray) (y6):=([]++aH bH eZ++aH a7 (aS y0)++aH a7 (aS y1)++aH a7 (aS y2)++aH a7 (aS y3)++aH cQ (aS y4)++az (ByteArray.size y5)::y6)
def FE (mo ui gi lk xa st sz fr off:Int) (tg:ByteArray):dq:=λQ=>aB .i64 3->cr mo ui gi (cr lk xa st (cr sz fr off (dv tg (o7 (lh,mo,ui,gi,lk,xa,st,sz,fr,off,tg,())/\pH ((ah<=lh/\lh< fb ^ bH)/\bx<=ku 
 /\(120:Nat)<=cd/\kj<=eR/\(yE (Ty.ok bN nh->bj ((aW<=nh.2.1/\nh.2.1<=4)/\(lB mo)/\bH<=ku/\yJ (Ty.ok bN ng->bj ((aW<=ng.2.1/\ng.2.1<=4)/\(lB ui)/\ 
 List.length ([]++aH bH eZ++aH a7 (aS mo))<=100000000000/\yL (Ty.ok bN nf->bj ((aW<=nf.2.1/\nf.2.1<=4)/\(lB gi)/\List.length ([]++aH bH eZ++aH a7 (aS mo)++aH 
 a7 (aS ui))<=100000000000/\aB .i64 dY/\qW (qW (Ty.ok bN nc->bj ((aW<=nc.2.1/\nc.2.1<=4)/\(lB lk)/\List.length ([]++aH bH eZ++aH a7 (aS mo)++aH a7 (aS ui)++ 
 aH a7 (aS gi))<=100000000000/\aB .i64 eS/\fS (ah+1+1+1+1< (↑kj:Int)/\fS (ah+1+1+1+1< (↑kj:Int)/\(Ty.ok bN na->bj ((aW<=na.2.1/\na.2.1<=4)/\(oC xa)/\ 
 List.length ([]++aH bH eZ++aH a7 (aS mo)++aH a7 (aS ui)++aH a7 (aS gi)++aH a7 (aS lk))<=100000000000/\aB .i64 fT/\bj (ByteArray.size tg<=255/\List.length ([]++aH bH eZ 
 ++aH a7 (aS mo)++aH a7 (aS ui)++aH a7 (aS gi)++aH a7 (aS lk)++aH cQ (aS xa))<=1000000000/\bj (List.length (SK mo ui gi lk xa tg tg.data.toList)<=100000000000/\(aJ (List.length 
 (SK mo ui gi lk xa tg tg.data.toList))->aB .i64 0->Q (SV.cC [S1.c (Cl.d Ty.u8 (SK mo ui gi lk xa tg tg.data.toList)),.c (.k aT)]) []))))))))))))))))))))))
theorem sg:cq 84 On:=by
 intro args H Q h;unfold On at h;split at h;rotate_left;cases h;rename_i mo ui gi lk xa st sz fr off tg;refine Wp.kE [some (.sl .u8),none] [] ?_;refine Wp.dy DY gV ⟨[],[]⟩ Tryz.f84 (FE mo ui gi lk xa st sz fr off tg) (unr:=[(7,11)]) ?_;unfold FE oC ku bj na nc nf ng nh pH yE yJ dv yL qW SK lB dG fS eR dP zX dY fT cd eS aT aS cr ah aW fb lh cA aJ bx bH a7 eZ cQ kj;obtain ⟨ff,hk,rfl,rfl,rfl,rfl,h⟩:=h;refine λ_ _ _ _ _ _ _ _ _ _ _=>⟨⟨ff,by grind⟩,rfl,by omega,by omega,by decide,by decide,by decide,λ_=>?_⟩;refine ⟨by decide,by decide,by decide,by decide,λ_=>⟨rfl,by decide,⟨ff.q1.1,by have:=ff.q1.2;omega⟩,by decide,by trivial,?_⟩⟩;refine ⟨by decide,by decide,by decide,by decide,λ_=>⟨rfl,by decide,⟨ff.q2.1,by have:=ff.q2.2;omega⟩,(by grind [aD]),by trivial,?_⟩⟩;refine ⟨by decide,by decide,by decide,by decide,λ_=>⟨rfl,by decide,⟨ff.q3.1,by have:=ff.q3.2;omega⟩,(by grind [aD]),by grind,?_⟩⟩;refine ⟨by decide,by decide,by decide,by decide,λ_=>⟨rfl,by decide,⟨(⟨by have:=ff.q4.1;omega,ff.q4.2⟩:0<=(lk:Int)/\(lk:Int)<=1024).1,by have:=(⟨by have:=ff.q4.1;omega,ff.q4.2⟩:0<=(lk:Int)/\(lk:Int)<=1024).2;omega⟩,(by grind [aD]),by trivial,?_⟩⟩;refine ⟨by decide,by decide,by decide,by decide,λ_=>⟨rfl,by decide,⟨ff.q5.1,by have:=ff.q5.2;omega⟩,(by grind [aD]),by trivial,?_⟩⟩;have hl:=hk.len;have wk:tg.data.toList.length=tg.size:=rfl;refine ⟨rfl,by omega,(by grind [aD]),rfl,by grind [aD],λ_ _=>?_⟩;trivial
def J5:Ct
 | [.v (.agg ci)],[],Q=>(match eA.of ci with
  | some (i,[])=>o7 i/\Q (.cC [.c (.d .u8 (fO i)),.c (.k (.int .i64 0))]) []
  | _=>False)
 | _,_,_=>False
theorem wv:cq 84 J5:=by
 intro args H Q h;unfold J5 at h;split at h;rotate_left
 .grind
 split at h;rotate_left
 .grind
 rename_i i hi;refine Wp.said (args':=[.v (.agg (eA.cells i))]) (by grind [bA.cE, Ji]) ?_;obtain ⟨k0,mo,ui,gi,lk,xa,st,sz,fr,off,tg,⟨⟩⟩:=i;obtain ⟨⟨hc,ho⟩,h⟩:=h;rcases ho with ⟨e,ho⟩| ⟨e,ho⟩| ⟨e,ho⟩
 .obtain ⟨h1,h2,h3⟩:=ho;subst e h2;exact KL _ _ _ ⟨hc,h1,rfl,h3.1,h3.2.1,h3.2.2,h⟩
 .subst e;exact KK _ _ _ ⟨hc,ho.1,ho.2,h⟩
 .subst e;exact sg _ _ _ ⟨hc,ho.1,ho.2.1,ho.2.2.1,ho.2.2.2.1,ho.2.2.2.2,h⟩
def Hw:Ct
 | [.v (.c (.k (.int .i64 k)))],[],Q=>k=1/\Q (.c (.o 0)) [.sl 227 bN (oS 1)]
 | _,_,_=>False
theorem U0:cq 136 Hw:=by
 intro args H Q h;unfold Hw at h;split at h
 .obtain ⟨rfl,h⟩:=h;exact wx _ _ _ h
 grind
def zp:Ct
 | [.v (.c cb)],[],Q=>(match (Ty.sl Ty.u8).of [cb] with
  | some (b,[])=>∃ mo ui gi xa st sz,(Ea mo ui gi 1 xa/\UH st sz)/\b=Y0 mo ui gi xa st sz/\Q (.cC [.agg [.k (.int .i64 1),.k (.int .i64 mo),.k (.int .i64 ui),.k (.int .i64 gi),.k (.int .i64 1),.k (.int .i64 xa),.k (.int .i64 st),.k (.int .i64 sz),.k (.int .i64 0),.k (.int .i64 0),.k (.string ⟨#[]⟩)],.c (.k (.int .i64 0))]) []
  | _=>False)
 | _,_,_=>False
def ald:=((DY.add sg).add wv).add U0
abbrev AF (y0:List (Ty.u8).den):=List.drop 2 (List.drop 2 (List.drop 2 (List.drop 1 y0)))
abbrev oF (y0:List (Ty.u8).den):=List.drop 4 (List.drop 4 (List.drop 2 (AF y0)))
abbrev rQ (y0:List (Ty.u8).den):=List.drop 2 (List.drop 1 y0)
abbrev nJ (y0:List (Ty.u8).den):=List.drop 2 (AF y0)
abbrev pW (y0:List (Ty.u8).den):=List.take a7 (List.drop 2 (rQ y0))
abbrev pU (y0:List (Ty.u8).den):=List.take a7 (List.drop 1 y0)
abbrev rH (y0:List (Ty.u8).den):=List.take cQ (List.drop 4 (nJ y0))
abbrev mj (y0:List (Ty.u8).den):=List.take a7 (rQ y0)
abbrev mi (y0:List (Ty.u8).den):=List.take cQ (nJ y0)
abbrev mg (y0:List (Ty.u8).den):=List.take a7 (AF y0)
abbrev je (y0:List (Ty.u8).den):=List.take bH y0
abbrev yI (y0:List (Ty.u8).den) (R:Prop):=fa (List.length y0)/\ah=ah/\aW<=aW/\aW<=cA/\aW<=(ay y0)/\fa (List.length y0)/\R
abbrev yG (y0) (y1) (R:Prop):=aJ (ByteArray.size (fY (List.take (cz y0) y1)))->ah=ah/\List.drop (cz y0) y1= []/\R
abbrev mZ {A1:Type} (y0) (y1:List A1):=List.take (cz y0) y1
abbrev qS (y0:List (Ty.u8).den):Value:=.int .i64 (bJ (je y0))
abbrev qR (y0:List (Ty.u8).den):Value:=.int .i64 (bJ (mj y0))
abbrev qQ (y0:List (Ty.u8).den):Value:=.int .i64 (bJ (mg y0))
abbrev qP (y0:List (Ty.u8).den):Value:=.int .i64 (bJ (mi y0))
abbrev qO (y0:List (Ty.u8).den):Value:=.int .i64 (bJ (pU y0))
abbrev qN (y0:List (Ty.u8).den):Value:=.int .i64 (bJ (pW y0))
abbrev yp (y0:List (Ty.u8).den):=List.take cQ (oF y0)
abbrev yi (y0:List (Ty.u8).den) (R:Prop):=List.length (List.drop 4 (nJ y0))<=140737488355328/\R
abbrev qI (y0:List (Ty.u8).den):=List.drop 2 (rQ y0)
def BK (b:(List (Ty.u8).den)):dq:=λQ=>cJ b (yI b (aB .i64 (bJ (je b))->bJ (je b)=aW/\(168:Nat)<=cd/\kh<=eR/\(kh<=eR->mf (mf (Ty.ok bN nD->bj (aW<=nD.2.1/\nD.2.1<=4/\nD.2.1<= 
 (aP (List.drop 1 b))/\fa (List.length (List.drop 1 b))/\(aB .i64 (bJ (pU b))->aB .i64 dG/\mh (mh (Ty.ok bN nC->bj (aW<=nC.2.1/\nC.2.1<=4/\nC.2.1<=(aP (rQ b))/\fa (List.length 
 (rQ b))/\(aB .i64 (bJ (mj b))->aB .i64 dP/\pT (pT (Ty.ok bN nB->bj (aW<=nB.2.1/\nB.2.1<=4/\nB.2.1<=(aP (qI b))/\fa (List.length (qI b))/\(aB .i64 (bJ (pW b))->aB 
 .i64 dY/\pV (pV (Ty.ok bN nA->bj (aW<=nA.2.1/\nA.2.1<=4/\nA.2.1<=(aP (AF b))/\fa (List.length (AF b))/\(aB .i64 (bJ (mg b))->aB .i64 eS/\fS (l9 (fS (l9 (Ty.ok 
 bN nz->bj (aW<=nz.2.1/\nz.2.1<=4/\nz.2.1<=(↑(List.length (nJ b)):Int)/\List.length (nJ b)<=140737488355328/\(aB .i64 (bJ (mi b))->aB .i64 fT/\pX (pX (Ty.ok bN ny->bj 
 (aW<=ny.2.1/\ny.2.1<=4/\ny.2.1<=(↑(List.length (List.drop 4 (nJ b))):Int)/\yi b (aB .i64 (bJ (rH b))->aB .i64 lg/\pY (pY (Ty.ok bN nw->bj (aW<=nw.2.1/\nw.2.1<=4/\ 
 nw.2.1<=(↑(List.length (oF b)):Int)/\List.length (oF b)<=140737488355328/\(aB .i64 (bJ (yp b))->pG (br (bJ (je b)==3) (bj (∃ z r,List.drop cQ (oF b)=z::r/\cz z<=List.length r/\ 
 List.length (List.drop 4 (oF b))<=140737488355328/\(yG z r (aB .i64 0->o7 (bJ (je b),bJ (pU b),bJ (mj b),bJ (pW b),bJ (mg b),bJ (mi b),bJ (rH b),bJ (yp b),ah,ah,fY 
 (mZ z r),())/\Q (SV.cC [S1.agg [.k (qS b),.k (qO b),.k (qR b),.k (qN b),.k (qQ b),.k (qP b),.k (.int .i64 (bJ (rH b))),.k (.int .i64 (bJ (yp b))),.k aT,.k aT,.k (.string (fY 
 (mZ z r)))],.c (.k aT)]) [])))) (bj (List.drop cQ (oF b)= []/\(aB .i64 0->o7 (bJ (je b),bJ (pU b),bJ (mj b),bJ (pW b),bJ (mg b),bJ (mi b),bJ (rH b),bJ (yp b), 
 ah,ah,ByteArray.mk #[],())/\Q (SV.cC [S1.agg [.k (qS b),.k (qO b),.k (qR b),.k (qN b),.k (qQ b),.k (qP b),.k (.int .i64 (bJ (rH b))),.k (.int .i64 (bJ (yp b))),.k aT,.k aT,.k 
 (.string gZ)],.c (.k aT)]) [])))))))))))))))))))))))))))))))))))))
theorem tT:cq 196 zp:=by
 intro args H Q h;unfold zp at h;split at h;rotate_left;cases h;rename_i cb;split at h;rotate_left;cases h;rename_i b hb;refine Wp.said (args':=[.c (.d Ty.u8 b)]) (λE g=>bA.cE (dI hb) (λ_ h=>h)) ?_;clear hb;refine Wp.dy ald gV ⟨[],[]⟩ Tryz.f196 (BK b) (unr:=[(5,11)]) ?_;unfold BK qI yi yp qN qO gZ qP qQ qR qS l9 bj mZ pG nw ny nz nA nB nC nD yG yI mf je mg mh mi mj rH pT dG pU pV fS pW pX nJ eR pY dP lg dY fT cd cJ eS rQ uP aT oF AF ah aW cA aP ay fa aJ bH a7 cQ kh;obtain ⟨mo,ui,gi,xa,st,sz,⟨ff,hk⟩,rfl,h⟩:=h;have e0:bJ (aH 1 (ax 1))=1:=ev (by decide) (by decide);have e1:bJ (aH 2 (ax mo))=mo:=ev ff.q1.1 (by have:=ff.q1.2;show _< (65536:Int);omega);have e2:bJ (aH 2 (ax ui))=ui:=ev ff.q2.1 (by have:=ff.q2.2;show _< (65536:Int);omega);have e3:bJ (aH 2 (ax gi))=gi:=ev ff.q3.1 (by have:=ff.q3.2;show _< (65536:Int);omega);have e4:bJ (aH 2 (ax 1))=1:=ev (⟨by decide,by decide⟩:0<=(1:Int)/\(1:Int)<=1024).1 (by have:=(⟨by decide,by decide⟩:0<=(1:Int)/\(1:Int)<=1024).2;show _< (65536:Int);omega);have e5:bJ (aH 4 (ax xa))=xa:=ev ff.q5.1 (by have:=ff.q5.2;show _< (4294967296:Int);omega);have e6:bJ (aH 4 (ax st))=st:=ev hk.r1.1 (by have:=hk.r1.2;show _< (4294967296:Int);omega);have e7:bJ (aH 4 (ax sz))=sz:=ev hk.r2.1 (by have:=hk.r2.2;show _< (4294967296:Int);omega);unfold Y0 cmB;simp only [aM,iG,iJ,L7,NY,e0,e1,e2,e3,e4,e5,e6,e7];refine λ_=>⟨by simp only [af,aD];omega,by trivial,by decide,by decide,by simp only [af,aD];omega,by simp only [af,aD];omega,λ_=>⟨by trivial,by decide,by decide,λ_=>?_⟩⟩;refine ⟨by decide,by decide,by decide,by decide,λ_=>⟨by trivial,by decide,by decide,by show (2:Int)<=_;simp only [af,aD];omega,by simp only [af,aD];omega,λ_=>⟨by unfold aB;decide,?_⟩⟩⟩;refine ⟨by decide,by decide,by decide,by decide,λ_=>⟨by trivial,by decide,by decide,by show (2:Int)<=_;simp only [af,aD];omega,by simp only [af,aD];omega,λ_=>⟨by unfold aB;decide,?_⟩⟩⟩;refine ⟨by decide,by decide,by decide,by decide,λ_=>⟨by trivial,by decide,by decide,by show (2:Int)<=_;simp only [af,aD];omega,by simp only [af,aD];omega,λ_=>⟨by unfold aB;decide,?_⟩⟩⟩;refine ⟨by decide,by decide,by decide,by decide,λ_=>⟨by trivial,by decide,by decide,by show (2:Int)<=_;simp only [af,aD];omega,by simp only [af,aD];omega,λ_=>⟨by unfold aB;decide,?_⟩⟩⟩;refine ⟨by decide,by decide,by decide,by decide,λ_=>⟨by trivial,by decide,by decide,by show (4:Int)<=_;simp only [af,aD];omega,by simp only [af,aD];omega,λ_=>⟨by unfold aB;decide,?_⟩⟩⟩;refine ⟨by decide,by decide,by decide,by decide,λ_=>⟨by trivial,by decide,by decide,by show (4:Int)<=_;simp only [af,aD];omega,by simp only [af,aD];omega,λ_=>⟨by unfold aB;decide,?_⟩⟩⟩;refine ⟨by decide,by decide,by decide,by decide,λ_=>⟨by trivial,by decide,by decide,by show (4:Int)<=_;simp only [aD];omega,by simp only [aD];omega,λ_=>⟨by unfold aB;decide,?_⟩⟩⟩;refine ak (λhc=>by cases hc) (λ_=>⟨by trivial,by trivial,λ_=>⟨⟨ff,.inl ⟨rfl,hk,rfl,rfl,rfl,rfl⟩⟩,h⟩⟩)
def Hv:Ct
 | [.v (.c (.k (.int .i64 k)))],[],Q=>k=2/\Q (.c (.o 0)) [.sl 227 bN (oS 2)]
 | _,_,_=>False
theorem UZ:cq 136 Hv:=by
 intro args H Q h;unfold Hv at h;split at h
 .obtain ⟨rfl,h⟩:=h;exact wx _ _ _ h
 grind
def zo:Ct
 | [.v (.c cb)],[],Q=>(match (Ty.sl Ty.u8).of [cb] with
  | some (b,[])=>∃ mo ui gi lk xa st sz fr off,(Ea mo ui gi lk xa/\zG st sz fr off)/\b=YZ mo ui gi lk xa st sz fr off/\Q (.cC [.agg [.k (.int .i64 2),.k (.int .i64 mo),.k (.int .i64 ui),.k (.int .i64 gi),.k (.int .i64 lk),.k (.int .i64 xa),.k (.int .i64 st),.k (.int .i64 sz),.k (.int .i64 fr),.k (.int .i64 off),.k (.string ⟨#[]⟩)],.c (.k (.int .i64 0))]) []
  | _=>False)
 | _,_,_=>False
def alc:=(((DY.add sg).add wv).add tT).add UZ
abbrev vK (y0:List (Ty.u8).den):=List.drop 2 (List.drop 2 (oF y0))
abbrev yA (y0:List (Ty.u8).den):=List.take a7 (List.drop 2 (oF y0))
abbrev yq (y0:List (Ty.u8).den):=List.take bH (vK y0)
abbrev yo (y0:List (Ty.u8).den):=List.take a7 (oF y0)
def BJ (b:(List (Ty.u8).den)):dq:=λQ=>cJ b (yI b (aB .i64 (bJ (je b))->bJ (je b)=dm/\(216:Nat)<=cd/\iE<=eR/\(yF (Ty.ok bN nv->bj (aW<=nv.2.1/\nv.2.1<=4/\nv.2.1<=(aP (List.drop 1 b))/\ 
 fa (List.length (List.drop 1 b))/\(aB .i64 (bJ (pU b))->yK (Ty.ok bN nt->bj (aW<=nt.2.1/\nt.2.1<=4/\nt.2.1<=(aP (rQ b))/\fa (List.length (rQ b))/\(aB .i64 (bJ (mj b))->yM 
 (Ty.ok bN nr->bj (aW<=nr.2.1/\nr.2.1<=4/\nr.2.1<=(aP (qI b))/\fa (List.length (qI b))/\(aB .i64 (bJ (pW b))->aB .i64 dY/\qX (qX (Ty.ok bN nq->bj (aW<= 
 nq.2.1/\nq.2.1<=4/\nq.2.1<=(aP (AF b))/\fa (List.length (AF b))/\(aB .i64 (bJ (mg b))->aB .i64 eS/\fS (ah+1+1+1+1< (↑iE:Int)/\fS (ah+1+1+1+1< (↑iE:Int)/\(Ty.ok 
 bN nk->bj (aW<=nk.2.1/\nk.2.1<=4/\nk.2.1<=(↑(List.length (nJ b)):Int)/\List.length (nJ b)<=140737488355328/\(aB .i64 (bJ (mi b))->aB .i64 fT/\wN (wN (Ty.ok bN nj->bj 
 (aW<=nj.2.1/\nj.2.1<=4/\nj.2.1<=(↑(List.length (List.drop 4 (nJ b))):Int)/\yi b (aB .i64 (bJ (rH b))->aB .i64 lg/\wO (wO (Ty.ok bN ni->bj (aW<=ni.2.1/\ni.2.1<=4/\ 
 ni.2.1<=(↑(List.length (oF b)):Int)/\List.length (oF b)<=140737488355328/\(aB .i64 (bJ (yo b))->Gx (Ty.ok bN rJ->bj (aW<=rJ.2.1/\rJ.2.1<=4/\rJ.2.1<=(↑(List.length (List.drop 2 (oF 
 b))):Int)/\List.length (List.drop 2 (oF b))<=140737488355328/\(aB .i64 (bJ (yA b))->Gy (Ty.ok bN rK->bj (aW<=rK.2.1/\rK.2.1<=4/\rK.2.1<=(↑(List.length (vK b)):Int)/\List.length (vK 
 b)<=140737488355328/\(aB .i64 (bJ (yq b))->yl (br (bJ (je b)==3) (bj (∃ z r,List.drop bH (vK b)=z::r/\cz z<=List.length r/\List.length (List.drop 1 (vK b))<=140737488355328/\(yG z 
 r (aB .i64 0->o7 (bJ (je b),bJ (pU b),bJ (mj b),bJ (pW b),bJ (mg b),bJ (mi b),bJ (rH b),bJ (yo b),bJ (yA b),bJ (yq b),fY (mZ z r),())/\Q (SV.cC [S1.agg [.k 
 (qS b),.k (qO b),.k (qR b),.k (qN b),.k (qQ b),.k (qP b),.k (.int .i64 (bJ (rH b))),.k (.int .i64 (bJ (yo b))),.k (.int .i64 (bJ (yA b))),.k (.int .i64 (bJ (yq b))),.k (.string (fY 
 (mZ z r)))],.c (.k aT)]) [])))) (bj (List.drop bH (vK b)= []/\(aB .i64 0->o7 (bJ (je b),bJ (pU b),bJ (mj b),bJ (pW b),bJ (mg b),bJ (mi b),bJ (rH b),bJ (yo b),bJ 
 (yA b),bJ (yq b),ByteArray.mk #[],())/\Q (SV.cC [S1.agg [.k (qS b),.k (qO b),.k (qR b),.k (qN b),.k (qQ b),.k (qP b),.k (.int .i64 (bJ (rH b))),.k (.int .i64 (bJ (yo b))),.k (.int 
 .i64 (bJ (yA b))),.k (.int .i64 (bJ (yq b))),.k (.string gZ)],.c (.k aT)]) [])))))))))))))))))))))))))))))))))))))))
theorem xN:cq 196 zo:=by
 intro args H Q h;unfold zo at h;split at h;rotate_left;cases h;rename_i cb;split at h;rotate_left;cases h;rename_i b hb;refine Wp.said (args':=[.c (.d Ty.u8 b)]) (λE g=>bA.cE (dI hb) (λ_ h=>h)) ?_;clear hb;refine Wp.dy alc gV ⟨[],[]⟩ Tryz.f196 (BJ b) (unr:=[(5,11)]) ?_;unfold BJ qI yi yl yo yq qN qO gZ qP qQ qR qS bj mZ ni nj nk nq nr nt nv yA yF yG yI yK je yM mg mi mj vK qX rH dG pU wN rJ wO rK fS Gx pW Gy nJ eR dP lg dY fT cd cJ eS rQ rR aT oF AF ah aW dm cA aP ay fa aJ bH a7 cQ iE;obtain ⟨mo,ui,gi,lk,xa,st,sz,fr,off,⟨ff,hk⟩,rfl,h⟩:=h;have e0:bJ (aH 1 (ax 2))=2:=ev (by decide) (by decide);have e1:bJ (aH 2 (ax mo))=mo:=ev ff.q1.1 (by have:=ff.q1.2;show _< (65536:Int);omega);have e2:bJ (aH 2 (ax ui))=ui:=ev ff.q2.1 (by have:=ff.q2.2;show _< (65536:Int);omega);have e3:bJ (aH 2 (ax gi))=gi:=ev ff.q3.1 (by have:=ff.q3.2;show _< (65536:Int);omega);have e4:bJ (aH 2 (ax lk))=lk:=ev (⟨by have:=ff.q4.1;omega,ff.q4.2⟩:0<=(lk:Int)/\(lk:Int)<=1024).1 (by have:=(⟨by have:=ff.q4.1;omega,ff.q4.2⟩:0<=(lk:Int)/\(lk:Int)<=1024).2;show _< (65536:Int);omega);have e5:bJ (aH 4 (ax xa))=xa:=ev ff.q5.1 (by have:=ff.q5.2;show _< (4294967296:Int);omega);have e6:bJ (aH 4 (ax st))=st:=ev hk.r1.1 (by have:=hk.r1.2;show _< (4294967296:Int);omega);have e7:bJ (aH 2 (ax sz))=sz:=ev hk.r2.1 (by have:=hk.r2.2;show _< (65536:Int);omega);have e8:bJ (aH 2 (ax fr))=fr:=ev hk.r3.1 (by have:=hk.r3.2;show _< (65536:Int);omega);have e9:bJ (aH 1 (ax off))=off:=ev hk.r4.1 (by have:=hk.r4.2;show _< (256:Int);omega);unfold YZ cmB;simp only [aM,iG,iJ,L7,NY,e0,e1,e2,e3,e4,e5,e6,e7,e8,e9];refine λ_=>⟨by simp only [af,aD];omega,by trivial,by decide,by decide,by simp only [af,aD];omega,by simp only [af,aD];omega,λ_=>⟨by trivial,by decide,by decide,λ_=>?_⟩⟩;refine ⟨by decide,by decide,by decide,by decide,λ_=>⟨by trivial,by decide,by decide,by show (2:Int)<=_;simp only [af,aD];omega,by simp only [af,aD];omega,λ_=>⟨by unfold aB;decide,?_⟩⟩⟩;refine ⟨by decide,by decide,by decide,by decide,λ_=>⟨by trivial,by decide,by decide,by show (2:Int)<=_;simp only [af,aD];omega,by simp only [af,aD];omega,λ_=>⟨by unfold aB;decide,?_⟩⟩⟩;refine ⟨by decide,by decide,by decide,by decide,λ_=>⟨by trivial,by decide,by decide,by show (2:Int)<=_;simp only [af,aD];omega,by simp only [af,aD];omega,λ_=>⟨by unfold aB;decide,?_⟩⟩⟩;refine ⟨by decide,by decide,by decide,by decide,λ_=>⟨by trivial,by decide,by decide,by show (2:Int)<=_;simp only [af,aD];omega,by simp only [af,aD];omega,λ_=>⟨by unfold aB;decide,?_⟩⟩⟩;refine ⟨by decide,by decide,by decide,by decide,λ_=>⟨by trivial,by decide,by decide,by show (4:Int)<=_;simp only [af,aD];omega,by simp only [af,aD];omega,λ_=>⟨by unfold aB;decide,?_⟩⟩⟩;refine ⟨by decide,by decide,by decide,by decide,λ_=>⟨by trivial,by decide,by decide,by show (4:Int)<=_;simp only [af,aD];omega,by simp only [af,aD];omega,λ_=>⟨by unfold aB;decide,?_⟩⟩⟩;refine ⟨by decide,by decide,by decide,by decide,λ_=>⟨by trivial,by decide,by decide,by show (2:Int)<=_;simp only [af,aD];omega,by simp only [af,aD];omega,λ_=>⟨by unfold aB;decide,?_⟩⟩⟩;refine ⟨by decide,by decide,by decide,by decide,λ_=>⟨by trivial,by decide,by decide,by show (2:Int)<=_;simp only [af,aD];omega,by simp only [af,aD];omega,λ_=>⟨by unfold aB;decide,?_⟩⟩⟩;refine ⟨by decide,by decide,by decide,by decide,λ_=>⟨by trivial,by decide,by decide,by show (1:Int)<=_;simp only [aD];omega,by simp only [aD];omega,λ_=>⟨by unfold aB;decide,?_⟩⟩⟩;refine ak (λhc=>by cases hc) (λ_=>⟨by trivial,by trivial,λ_=>⟨⟨ff,.inr (.inl ⟨rfl,hk,rfl⟩)⟩,h⟩⟩)
def Hu:Ct
 | [.v (.c (.k (.int .i64 k)))],[],Q=>k=3/\Q (.c (.o 0)) [.sl 227 bN (oS 3)]
 | _,_,_=>False
theorem UY:cq 136 Hu:=by
 intro args H Q h;unfold Hu at h;split at h
 .obtain ⟨rfl,h⟩:=h;exact wx _ _ _ h
 grind
def zn:Ct
 | [.v (.c cb)],[],Q=>(match (Ty.sl Ty.u8).of [cb] with
  | some (b,[])=>∃ mo ui gi lk xa tg,(Ea mo ui gi lk xa/\zF tg)/\b=VC mo ui gi lk xa tg/\Q (.cC [.agg [.k (.int .i64 3),.k (.int .i64 mo),.k (.int .i64 ui),.k (.int .i64 gi),.k (.int .i64 lk),.k (.int .i64 xa),.k (.int .i64 0),.k (.int .i64 0),.k (.int .i64 0),.k (.int .i64 0),.k (.string tg)],.c (.k (.int .i64 0))]) []
  | _=>False)
 | _,_,_=>False
def alb:=((((DY.add sg).add wv).add tT).add xN).add UY
def BI (b:(List (Ty.u8).den)):dq:=λQ=>cJ b (yI b (aB .i64 (bJ (je b))->bJ (je b)=lh/\(120:Nat)<=cd/\kj<=eR/\(yE (Ty.ok bN nh->bj (aW<=nh.2.1/\nh.2.1<=4/\nh.2.1<=(aP (List.drop 1 b))/\ 
 fa (List.length (List.drop 1 b))/\(aB .i64 (bJ (pU b))->yJ (Ty.ok bN ng->bj (aW<=ng.2.1/\ng.2.1<=4/\ng.2.1<=(aP (rQ b))/\fa (List.length (rQ b))/\(aB .i64 (bJ (mj b))->yL 
 (Ty.ok bN nf->bj (aW<=nf.2.1/\nf.2.1<=4/\nf.2.1<=(aP (qI b))/\fa (List.length (qI b))/\(aB .i64 (bJ (pW b))->aB .i64 dY/\qW (qW (Ty.ok bN nc->bj (aW<= 
 nc.2.1/\nc.2.1<=4/\nc.2.1<=(aP (AF b))/\fa (List.length (AF b))/\(aB .i64 (bJ (mg b))->aB .i64 eS/\fS (ah+1+1+1+1< (↑kj:Int)/\fS (ah+1+1+1+1< (↑kj:Int)/\(Ty.ok 
 bN na->bj (aW<=na.2.1/\na.2.1<=4/\na.2.1<=(↑(List.length (nJ b)):Int)/\List.length (nJ b)<=140737488355328/\(aB .i64 (bJ (mi b))->aB .i64 fT/\br (bJ (je b)==3) (bj (∃ z r, 
 List.drop cQ (nJ b)=z::r/\cz z<=List.length r/\yi b (yG z r (aB .i64 0->o7 (bJ (je b),bJ (pU b),bJ (mj b),bJ (pW b),bJ (mg b),bJ (mi b),ah,ah,ah,ah, 
 fY (mZ z r),())/\Q (SV.cC [S1.agg [.k (qS b),.k (qO b),.k (qR b),.k (qN b),.k (qQ b),.k (qP b),.k aT,.k aT,.k aT,.k aT,.k (.string (fY (mZ z r)))],.c (.k aT)]) [])))) (bj 
 (List.drop cQ (nJ b)= []/\(aB .i64 0->o7 (bJ (je b),bJ (pU b),bJ (mj b),bJ (pW b),bJ (mg b),bJ (mi b),ah,ah,ah,ah,ByteArray.mk #[],())/\Q (SV.cC [S1.agg [.k (qS b), 
 .k (qO b),.k (qR b),.k (qN b),.k (qQ b),.k (qP b),.k aT,.k aT,.k aT,.k aT,.k (.string gZ)],.c (.k aT)]) []))))))))))))))))))))))))
theorem EZ:cq 196 zn:=by
 intro args H Q h;unfold zn at h;split at h;rotate_left;cases h;rename_i cb;split at h;rotate_left;cases h;rename_i b hb;refine Wp.said (args':=[.c (.d Ty.u8 b)]) (λE g=>bA.cE (dI hb) (λ_ h=>h)) ?_;clear hb;refine Wp.dy alb gV ⟨[],[]⟩ Tryz.f196 (BI b) (unr:=[(5,11)]) ?_;unfold BI qI yi qN qO gZ qP qQ qR qS bj mZ na nc nf ng nh yE yG yI yJ je yL mg mi mj qW dG pU fS pW nJ eR dP zX dY fT cd cJ eS rQ aT AF ah aW lh cA aP ay fa aJ bH a7 cQ kj;obtain ⟨mo,ui,gi,lk,xa,tg,⟨ff,hk⟩,rfl,h⟩:=h;have e0:bJ (aH 1 (ax 3))=3:=ev (by decide) (by decide);have e1:bJ (aH 2 (ax mo))=mo:=ev ff.q1.1 (by have:=ff.q1.2;omega);have e2:bJ (aH 2 (ax ui))=ui:=ev ff.q2.1 (by have:=ff.q2.2;omega);have e3:bJ (aH 2 (ax gi))=gi:=ev ff.q3.1 (by have:=ff.q3.2;show _< (65536:Int);omega);have e4:bJ (aH 2 (ax lk))=lk:=ev (⟨by have:=ff.q4.1;omega,ff.q4.2⟩:0<=(lk:Int)/\(lk:Int)<=1024).1 (by have:=(⟨by have:=ff.q4.1;omega,ff.q4.2⟩:0<=(lk:Int)/\(lk:Int)<=1024).2;show _< (65536:Int);omega);have e5:bJ (aH 4 (ax xa))=xa:=ev ff.q5.1 (by have:=ff.q5.2;show _< (4294967296:Int);omega);have hl:=hk.len;have wk:tg.data.toList.length=tg.size:=(j7 tg).symm;have h8:(az tg.size).toNat=tg.size:=UInt8.toNat_ofNat_of_lt' (by show tg.size< 256;omega);unfold VC cmB;simp only [aM,iG,iJ,e0,e1,e2,e3,e4,e5];refine λ_=>⟨by simp only [af,aD,av,wk];omega,by trivial,by decide,by decide,by simp only [af,aD,av,wk];omega,by simp only [af,aD,av,wk];omega,λ_=>⟨by trivial,by decide,by decide,λ_=>?_⟩⟩;refine ⟨by decide,by decide,by decide,by decide,λ_=>⟨by trivial,by decide,by decide,by show (2:Int)<=_;simp only [af,aD,av,wk];omega,by simp only [af,aD,av,wk];omega,λ_=>⟨by unfold aB;decide,?_⟩⟩⟩;refine ⟨by decide,by decide,by decide,by decide,λ_=>⟨by trivial,by decide,by decide,by show (2:Int)<=_;simp only [af,aD,av,wk];omega,by simp only [af,aD,av,wk];omega,λ_=>⟨by unfold aB;decide,?_⟩⟩⟩;refine ⟨by decide,by decide,by decide,by decide,λ_=>⟨by trivial,by decide,by decide,by show (2:Int)<=_;simp only [af,aD,av,wk];omega,by simp only [af,aD,av,wk];omega,λ_=>⟨by unfold aB;decide,?_⟩⟩⟩;refine ⟨by decide,by decide,by decide,by decide,λ_=>⟨by trivial,by decide,by decide,by show (2:Int)<=_;simp only [af,aD,av,wk];omega,by simp only [af,aD,av,wk];omega,λ_=>⟨by unfold aB;decide,?_⟩⟩⟩;refine ⟨by decide,by decide,by decide,by decide,λ_=>⟨by trivial,by decide,by decide,by show (4:Int)<=_;simp only [af,aD,av,wk];omega,by simp only [af,aD,av,wk];omega,λ_=>⟨by unfold aB;decide,?_⟩⟩⟩;refine ak (λ_=>⟨by trivial,az tg.size,tg.data.toList,by trivial,by omega,by simp only [av,wk];omega,λ_=>?_⟩) (λhc=>by cases hc);rw [h8,<-wk,fz,List.drop_length,zq];exact ⟨by trivial,by trivial,λ_=>⟨⟨ff,.inr (.inr ⟨rfl,hk,rfl,rfl,rfl,rfl⟩)⟩,h⟩⟩
structure WB (A:Value->Atom) (T:List Int) (R:List UInt8) (fs:List (List UInt8)):Prop where ex:∃ x y,A=j4 [.cells 150 [.de (.int .u32) T 0 0,.o 1,.o 2],.sl 5 .u8 x,.sl 5 .u8 y]/\T.length=256/\MW T x y R fs
structure RB (A:Value->Atom) (fs:List (List UInt8)) (R:List UInt8):Prop where ex:∃ T im a c M,A=j4 [.cells 245 [.de (.int .u32) T 0 0,.d .u8 im,.k (.int .i64 a),.k (.int .i64 c),.m 1],.map 3 .int dV M]/\T.length=256/\im.length<=100000000/\R.length<=10000000/\iX T im a c fs R M
def Bb:Ct
 | [.v (.c (.p 0 0)),.v (.c cb)],[.abs A],Q=>(match (Ty.sl Ty.u8).of [cb] with
  | some (b,[])=>∃ T R fs,WB A T R fs/\R.length+b.length<=10000000/\∀ A' (r:Nat) fs',WB A' T (R++b) (fs++fs')->(∀ gs,r=dS (fs++gs) R.length)->Q (.int r) [.abs A']
  | _=>False)
 | _,_,_=>False
theorem wq:cq 54 Bb:=λargs H Q h=>by
 unfold Bb at h;split at h
 .refine Bk _ _ _ ?_;split at h;rotate_left
  .grind
  rename_i b hb;obtain ⟨T,R,fs,⟨x,y,rfl,hT,hm⟩,hl,h⟩:=h;refine ⟨T,x,y,rfl,?_⟩;unfold Bc;simp only [hb];refine ⟨R,fs,hT,hm,hl,λx' y' fs' hm'=>?_⟩;exact h _ (256*x.length+y.length) fs' ⟨_,_,rfl,hT,hm'⟩ (λgs=>hm.ref gs)
 grind
def N8:Ct
 | [.v (.c (.p 0 0))],[.abs A],Q=>∃ T R fs,WB A T R fs/\R.length<=10000000/\∀ A' fs',kZ T (fs++fs') R->Q (.c (.d .u8 (fs++fs').flatten)) [.abs A']
 | _,_,_=>False
theorem Bh:cq 55 N8:=λargs H Q h=>by
 unfold N8 at h;split at h
 .refine ES _ _ _ ?_;obtain ⟨T,R,fs,⟨x,y,rfl,hT,hm⟩,hl,h⟩:=h;refine ⟨T,x,y,rfl,?_⟩;refine ⟨R,fs,hT,hm,hl,λfs' hf=>?_⟩;exact h _ fs' hf
 grind
def Oc:Ct
 | [.v (.c (.p 0 0)),.v (.c (.k (.int .i64 r))),.v (.c (.k (.int .i64 n)))],[.abs A],Q=>∃ fs R,RB A fs R/\∃ o:Nat,o<=R.length/\r=(dS fs o:Int)/\(0<=n/\n<=10000000)/\∀ A' z nx e,RB A' fs R->pw fs R o n.toNat z nx e->Q (.cC [.c (.d .u8 z),.c (.k (.int .i64 nx)),.c (.k (.int .i64 e))]) [.abs A']
 | _,_,_=>False
theorem Kw:cq 147 Oc:=λargs H Q h=>by
 unfold Oc at h;split at h
 .refine ET _ _ _ ?_;obtain ⟨fs,R,⟨T,im,a,c,M,rfl,hT,hi,hR,hm⟩,o,ho,hr,hn,h⟩:=h;refine ⟨T,im,a,c,M,rfl,?_⟩;refine ⟨fs,R,hT,hi,hm,o,ho,hR,hr,hn,λz nx e M' hm' hz=>?_⟩;exact h _ z nx e ⟨_,_,_,_,_,rfl,hT,hi,hR,hm'⟩ hz
 grind
def TQ:Ct
 | [.v (.c (.de (.int .u32) T 0 0))],[],Q=>T.length=256/\∀ A,WB A T [] []->Q (.c (.p 0 0)) [.abs A]
 | _,_,_=>False
theorem HV:cq 47 TQ:=λargs H Q h=>by
 unfold TQ at h;split at h
 .refine KA _ _ _ ?_;exact h.2 _ ⟨[],[],rfl,h.1,MW.nil _⟩
 grind
def Od:Ct
 | [.v (.c (.de (.int .u32) T 0 0)),.v (.c ci),.v (.c (.k (.int .i64 a))),.v (.c (.k (.int .i64 c)))],[],Q=>(match (Ty.sl Ty.u8).of [ci] with
  | some (im,[])=>(T.length=256/\im.length<=100000000)/\∃ fs R,R.length<=10000000/\iX T im a c fs R []/\∀ A,RB A fs R->Q (.c (.p 0 0)) [.abs A]
  | _=>False)
 | _,_,_=>False
theorem Kx:cq 103 Od:=λargs H Q h=>by
 unfold Od at h;split at h
 .split at h;rotate_left
  .grind
  rename_i im hb;obtain ⟨⟨hT,hi⟩,fs,R,hR,hm,h⟩:=h;refine EU _ _ _ ?_;unfold Hs xA;simp only [hb];exact ⟨hi,h _ ⟨_,_,_,_,_,rfl,hT,hi,hR,hm⟩⟩
 grind
def Om:Ct
 | [.v (.c cb)],[],Q=>(match (Ty.sl Ty.u8).of [cb] with
  | some (b,[])=>∃ i,o7 i/\b=fO i/\Q (.cC [.agg (eA.cells i),.c (.k (.int .i64 0))]) []
  | _=>False)
 | _,_,_=>False
theorem XS:cq 196 Om:=by
 intro args H Q h;unfold Om at h;split at h;rotate_left
 .grind
 split at h;rotate_left
 .grind
 rename_i b hb;obtain ⟨⟨k0,mo,ui,gi,lk,xa,st,sz,fr,off,tg,⟨⟩⟩,⟨hc,ho⟩,rfl,h⟩:=h;rcases ho with ⟨e,ho⟩| ⟨e,ho⟩| ⟨e,ho⟩
 .obtain ⟨h1,h2,h3,h4,h5⟩:=ho;subst e h2 h3 h4 h5;refine tT _ _ _ ?_;unfold zp;simp only [hb];exact ⟨mo,ui,gi,xa,st,sz,⟨hc,h1⟩,rfl,h⟩
 .have h5:tg=⟨#[]⟩:=ho.2;subst e h5;refine xN _ _ _ ?_;unfold zo;simp only [hb];exact ⟨mo,ui,gi,lk,xa,st,sz,fr,off,by grind,rfl,h⟩
 .obtain ⟨h1,h2,h3,h4,h5⟩:=ho;subst e h2 h3 h4 h5;refine EZ _ _ _ ?_;unfold zn;simp only [hb];exact ⟨mo,ui,gi,lk,xa,tg,⟨hc,h1⟩,rfl,h⟩
def aa5:Ct:=cP<| cI λr=>cO λH Q=>match H with
 | [.abs A]=>∃ fs R,RB A fs R/\∃ o:Nat,o<=R.length/\r=(dS fs o:Int)/\∃ i q,o7 i/\R.drop o=fO i++q/\∀ A',RB A' fs R->Q (.cC [.agg (eA.cells i),.c (.k (.int .i64 (dS fs (o+(fO i).length):Nat))),.c (.k (.int .i64 0))]) [.abs A']
 | _=>False
def ack:=((((((((((DY.add sg).add wv).add tT).add xN).add EZ).add wq).add Bh).add Kw).add HV).add Kx).add XS
abbrev PG:=SV.cC [S1.agg [.k aT,.k aT,.k aT,.k aT,.k aT,.k aT,.k aT,.k aT,.k aT,.k aT,.k (.string (ByteArray.mk #[]))],.c (.k aT),.c (.k (.int .i64 2))]
abbrev vG {A1:Type} (y0) (y1:List A1) (y2:Int) (y3) (y4:Int) (R:Prop):=y0<=List.length y1/\y2=(↑(dS y3 y0):Int)/\(0<=y4/\y4<=10000000)/\R
abbrev IG (y0:List UInt8):=aW+(↑(cz (aA Ty.u8 y0 (13:Int))):Int)
abbrev Ix (y0:List UInt8):=(↑(List.length (oS (fQ y0))):Int)
def FD (r:Int) (A:Value->Atom):dq:=λQ=>aB .i64 r->∃ fs R,RB A fs R/\∃ o,o<=List.length R/\r=(↑(dS fs o):Int)/\(ah<=(14:Int)/\(14:Int)<=(10000000:Int))/\∀ (A':Value->Atom) (z:List UInt8) (nx e:Int),RB A' fs R->pw fs R o (14: 
 Nat) z nx e->cW z (bZ nx e (br (e !=0) (Q PG [HO.abs A']) (ah<=ah/\ah< (ay z)/\(kQ z (List.length (oS (fQ z))<=9223372036854775807->aK (λi ag=>br (decide (i.1.1< (Ix z))) (0<=i.1.1/\ 
 i.1.1< (Ix z)/\0<=i.1.1/\i.1.1< (Ix z)/\(Ty.ok bN (aA bN (oS (fQ z)) i.1.1)->aB .i64 (i.1.2.1+(aA bN (oS (fQ z)) i.1.1).2.1)/\cj i.1.1 (ag ((i.1.1+1,i.1.2.1+(aA bN (oS (fQ z)) 
 i.1.1).2.1,()),())))) (cK (λk=>ah<=ah/\ah< (ay z)/\(kQ z (br ((fQ z)==3) (ah<=(13:Int)/\(13:Int)< (ay z)/\(Ty.ok Ty.u8 (aA Ty.u8 z (13:Int))->aB .i64 (IG z)/\aB .i64 (i.1.2.1+ 
 (IG z))/\k ((i.1.2.1+(IG z),()),()))) (k (i.1.2,()))))) λi=>∃ fs R,RB A' fs R/\∃ o,vG o R r fs i.1.1 (∀ (A':Value->Atom) (z:List UInt8) (nx e:Int),RB A' fs R->pw fs R o (aS i.1.1) z nx e->cW z 
 (bZ nx e (br (e !=0) (Q PG [HO.abs A']) (∃ i,o7 i/\z=fO i/\(cr i.1 i.2.1 i.2.2.1 (cr i.2.2.2.1 i.2.2.2.2.1 i.2.2.2.2.2.1 (cr i.2.2.2.2.2.2.1 i.2.2.2.2.2.2.2.1 i.2.2.2.2.2.2.2.2.1 (aB .i64 i.2.2.2.2.2.2.2.2.2.1-> 
 dv i.2.2.2.2.2.2.2.2.2.2.1 (aB .i64 0->Q (SV.cC [S1.agg [.k (aC i.1),.k (aC i.2.1),.k (aC i.2.2.1),.k (aC i.2.2.2.1),.k (aC i.2.2.2.2.1),.k (aC i.2.2.2.2.2.1),.k (aC i.2.2.2.2.2.2.1),.k (aC i.2.2.2.2.2.2.2.1), 
 .k (aC i.2.2.2.2.2.2.2.2.1),.k (aC i.2.2.2.2.2.2.2.2.2.1),.k (.string i.2.2.2.2.2.2.2.2.2.2.1)],.c (.k (aC nx)),.c (.k aT)]) [HO.abs A']))))))))))) ((ah,(13:Int),()),()))))))
theorem KJ:cq 148 aa5:=eI<| rZ<| nF λr=>r5 λH Q h=>by
 split at h;rotate_left;cases h;rename_i A;refine Wp.dy ack gV ⟨[(7,⟨[(28,.int .i64),(9,.int .i64)],[]⟩)],[(13,⟨[(9,.int .i64)],[]⟩)]⟩ Tryz.f148 (FD r A) ?_;unfold FD Ix kQ IG vG PG cW dv bZ cj aT aS cr fQ aC ah aW ay aJ;obtain ⟨fs,R,hR,o,ho,rfl,i,q,hi,hd,h⟩:=h;have hl:=congrArg List.length hd;rw [aR,af] at hl;have hn:=SH hi;have hk:i.1=1\/i.1=2\/i.1=3:=by rcases hi.or with ⟨e,_⟩| ⟨e,_⟩| ⟨e,_⟩;exact .inl e;exact .inr (.inl e);exact .inr (.inr e)
 have h200:i.1=3->0< i.2.2.2.2.2.2.2.2.2.2.1.size/\i.2.2.2.2.2.2.2.2.2.2.1.size<=200:=λe3=>by rcases hi.or with ⟨e,_⟩| ⟨e,_⟩| ⟨e,hL,_⟩;rw [e] at e3;cases e3;rw [e] at e3;cases e3;exact hL.len
 have h15:14<=(fO i).length/\(fO i).length<=214:=by
  rcases hk with e| e| e;rw [hn,if_pos e];decide;rw [hn,if_neg (by rw [e];decide),if_pos e];decide
  .have:=h200 e;rw [hn,if_neg (by rw [e];decide),if_neg (by rw [e];decide)];omega
 refine λ_=>⟨fs,R,hR,o,ho,rfl,⟨by decide,by decide⟩,λA' z nx e hR hz _ _ _=>?_⟩;obtain ⟨rfl,rfl,rfl⟩:=hz.ok (by omega);obtain ⟨t,ht⟩:=MK hi;have GW:((aA .u8 ((R.drop o).take 14) 0).toNat:Int)=i.1:=by
  rw [hd,ht];show ((az i.1.toNat).toNat:Int)=i.1;rcases hk with e| e| e<;>rw [e]<;>rfl
 have apg:i.1=3->((aA .u8 ((R.drop o).take 14) 13).toNat:Int)=i.2.2.2.2.2.2.2.2.2.2.1.size:=λe=>by
  have hlen:=h200 e;have h13:=aep (i:=i) e;have e2:((R.drop o).take 14)[13]?=some (az i.2.2.2.2.2.2.2.2.2.2.1.size):=by
   rw [List.getElem?_take_of_lt (by decide),hd,bF (by omega),h13]
  unfold aA;rw [dh,show (13:Int).toNat=13 from rfl,e2];show ((az i.2.2.2.2.2.2.2.2.2.2.1.size).toNat:Int)=_;rw [UInt8.toNat_ofNat_of_lt' (by show i.2.2.2.2.2.2.2.2.2.2.1.size< 256;omega)]
 have OT:((R.drop o).take 14).length=14:=by rw [aF,aR];omega
 refine ak (λhc=>by cases hc) (λ_=>⟨by decide,by omega,λ_ _=>?_⟩);rw [GW,OT];have hB:∀ x∈oS i.1,0<=(x.2.1:Int)/\(x.2.1:Int)<=4:=by rcases hk with e| e| e<;>rw [e]<;>decide
 have hF:(oS i.1).length<=4:=by rcases hk with e| e| e<;>rw [e]<;>decide
 have hS:13+vl (oS i.1)=if i.1=1 then 21 else if i.1=2 then 22 else 13:=by rcases hk with e| e| e<;>rw [e]<;>rfl
 refine aK.intro (λj=>0<=j.1.1/\j.1.1<=(oS i.1).length/\j.1.2.1=13+vl ((oS i.1).take j.1.1.toNat)) (λj=>((oS i.1).length - j.1.1).toNat) ⟨bh _,by show (0:Int)<=_;omega,rfl⟩ ?_;rintro ⟨⟨j,n,_⟩,_⟩ ⟨j0,j1,hj⟩;simp only at j0 j1 hj ⊢;subst hj;refine ak (λhc=>?_) (λhc=>?_)
 .have hc:j< ((oS i.1).length:Int):=of_decide_eq_true hc;have h1:=Vc j0 hc;have h2:=Su (l:=oS i.1) (j+1).toNat hB;rw [Int.add_assoc,<-h1];exact ⟨j0,hc,j0,hc,λ_=>⟨by unfold aB;omega,by unfold aB;omega,⟨by omega,by omega,rfl⟩,by omega⟩⟩
 .have hc:¬j< ((oS i.1).length:Int):=of_decide_eq_false hc;rw [aL (l:=oS i.1) (i:=j.toNat) (by omega),hS];refine cK.intro (λk=>k.1.1=(fO i).length) ⟨by decide,by decide,λ_=>ak (λh3=>?_) (λh3=>?_)⟩ ?_
  .have h3:i.1=3:=eq_of_beq h3;have:=h200 h3;rw [apg h3];refine ⟨by decide,by decide,λ_=>⟨by unfold aB;omega,?_,?_⟩⟩
   .rw [if_neg (by rw [h3];decide),if_neg (by rw [h3];decide)];unfold aB;omega
   .dsimp only;rw [hn,if_neg (by rw [h3];decide),if_neg (by rw [h3];decide),if_neg (by rw [h3];decide),if_neg (by rw [h3];decide)];omega
  .have h3:¬i.1=3:=λe=>by rw [e] at h3;cases h3
   show _=_;rw [hn];rcases hk with e| e| e;rw [if_pos e,if_pos e];rfl;rw [if_neg (by rw [e];decide),if_pos e,if_neg (by rw [e];decide),if_pos e];rfl;exact absurd e h3
  .rintro ⟨⟨n,_⟩,_⟩ hn2;simp only at hn2 ⊢;subst hn2;refine ⟨fs,R,hR,o,ho,rfl,⟨by omega,by omega⟩,λA' z nx e hR hz _ _ _=>?_⟩;rw [bL] at hz;obtain ⟨rfl,rfl,rfl⟩:=hz.ok (by omega);refine ak (λhc=>by cases hc) (λ_=>⟨i,hi,?_,?_⟩)
   .rw [hd,List.take_left]
   .exact λ_ _ _ _ _ _ _ _ _ _ _ _=>h A' hR
end Go.Proofs

namespace Go.LmN
open Go.Lm
open Go Go.RowKit

def NU (a b:ByteArray):Bool:=a.toList==b.toList
section
variable {a b:List ByteArray} {k X:Int}
end

def SA:List ByteArray->List ByteArray->Bool
 | [],[]=>true
 | a::al,b::bs=>NU a b&& SA al bs
 | _,_=>false
section
variable {a b:List ByteArray} {k:Int} {X:Bool}
end
section
variable {a b:List ByteArray} {k:Int} {X:Bool}
end
end Go.LmN
namespace Go.LmN
open Go.Lm
open Go Go.RowKit

def af2 (c:UInt8):Bool:=c==0|| c==47
def AN (s:ByteArray) (p:Nat):Bool:=(s.data.toList.drop p).any af2
def ake (s:ByteArray):Bool:=s.toList==(⟨#[]⟩:ByteArray).toList|| (s.toList==(⟨#[46]⟩:ByteArray).toList|| s.toList==(⟨#[46,46]⟩:ByteArray).toList)
def db (s:ByteArray):Int:=if (s.size:Int)>255 then 23 else if ake s|| AN s 0 then 22 else 0
theorem j8 (s:ByteArray):s.size=s.data.toList.length:=by
 rfl
theorem aak (s:ByteArray) (p:Nat) (h:p< s.size):s.data.toList[p]'(by rw [<-j8];exact h)=s[p]:=by
 rfl
theorem HG (s:ByteArray) (p:Nat) (h:p< s.size):AN s p=(af2 s[p]|| AN s (p+1)):=by
 grind [AN, bM, j8, aak]
theorem aby (s:ByteArray) (p:Nat) (h:¬p< s.size):AN s p=false:=by
 grind [AN, eJ, j8]
theorem aal (s:ByteArray) (p:Nat) (h:p< s.size):s.get! p=s[p]:=by
 grind [get_at]
theorem N0 (s:ByteArray) (p:Nat) (h:p< s.size) (ha:128<=(s[p]'h).toNat) (k:Nat) (hk:1<=k) (hkw:k< (Utf8.decode s p).2):∃ h':p+k< s.size,128<=(s[p+k]'h').toNat:=by
 have cont:∀ j,(decide (p+j< s.size)&& (s.get! (p+j)).toNat / 64==2)=true->∃ h':p+j< s.size,128<=(s[p+j]'h').toNat:=λj hj=>by
  grind [aal]
 grind [Utf8.decode]
theorem WV {c:UInt8} (h:128<=c.toNat):af2 c=false:=by
 unfold af2;have h0:c≠0:=λe=>by simp_all
 have h1:c≠47:=λe=>by simp_all
 grind
theorem OD (s:ByteArray) (p:Nat):∀ n,(∀ k,k< n->∃ h':p+k< s.size,128<=(s[p+k]'h').toNat)->AN s p=AN s (p+n)
 | 0,_=>rfl
 | n+1,h=>by
  rw [OD s p n λk hk=>h k (by omega)]
  grind [HG, WV]
theorem QF (s:ByteArray) (p:Nat) (h:p< s.size):1<=(Utf8.decode s p).2:=by
 grind [decode_ascii, decode_high]
theorem WW (s:ByteArray) (p:Nat) (h:p< s.size):
  AN s p=((((Utf8.decode s p).1:Int)==0|| ((Utf8.decode s p).1:Int)==47)|| AN s (p+(Utf8.decode s p).2)):=by
 by_cases ha:(s[p]'h).toNat< 128
 .rw [decode_ascii s p h ha,HG s p h];congr 1;have e:∀ m:Nat,m< 256->(s[p]==az m)=(((s[p]).toNat:Int)==(m:Int)):=λm hm=>by
   rw [Bool.eq_iff_iff];simp only [beq_iff_eq,<-UInt8.toNat_inj,UInt8.toNat_ofNat'];omega
  exact congr (congrArg _ (e 0 (by omega))) (e 47 (by omega))
 .have ha':128<=(s[p]'h).toNat:=by omega
  obtain ⟨h1,h2⟩:=decode_high s p h ha';have e0:(((Utf8.decode s p).1:Int)==0)=false:=by grind
  have e1:(((Utf8.decode s p).1:Int)==47)=false:=by grind
  rw [e0,e1]
  grind [OD, N0]
end Go.LmN
namespace Go.LmN
open Go.Lm
open Go Go.RowKit

def aav (s:ByteArray):Bool:=s.toList==(⟨#[]⟩:ByteArray).toList
def ann (s:ByteArray):Bool:=s.toList==(⟨#[46]⟩:ByteArray).toList
def akY (s:ByteArray):Bool:=s.toList==(⟨#[46,46]⟩:ByteArray).toList
section
variable {ps acc:List ByteArray} {dir:Bool} {k:Int} {X:List ByteArray×Bool×Int}
end
end Go.LmN
namespace Go.LmN
open Go.Lm
open Go Go.RowKit

abbrev Row:=List (List UInt8)
def key (a:List ByteArray):Row:=a.map ByteArray.toList
theorem xY:∀ a b:List ByteArray,SA a b=decide (key a=key b)
 | [],[]=>rfl
 | [],_::_=>rfl
 | _::_,[]=>rfl
 | a::al,b::bs=>by
  show (NU a b&& SA al bs)=decide (a.toList::key al=b.toList::key bs);rw [xY al bs];have:NU a b=decide (a.toList=b.toList):=by unfold NU;rw [Bool.eq_iff_iff];simp
  rw [this,Bool.eq_iff_iff];simp
end Go.LmN
namespace Go.LmN
open Go.Lm
open Go Go.RowKit

theorem Nv:∀ {p:List UInt8},(47:UInt8) ∉ p->Lib.index p [47]= -1
 | [],_=>rfl
 | b::p,h=>by
  have hb:(b==47)=false:=by simp only [bm,not_or] at h;simpa using λe=>h.1 e.symm
  have hp:([47]:List UInt8).isPrefixOf (b::p)=false:=by simp [List.isPrefixOf];intro e;exact absurd e.symm (by simpa using hb)
  rw [Lib.index,hp,Nv (λe=>h (aI _ e))];rfl
theorem JD:∀ {p:List UInt8} (q:List UInt8),(47:UInt8) ∉ p->Lib.index (p++47::q) [47]=(p.length:Nat)
 | [],q,_=>by rw [gS,Lib.index];simp [List.isPrefixOf]
 | b::p,q,h=>by
  have hb:(b==47)=false:=by simp only [bm,not_or] at h;simpa using λe=>h.1 e.symm
  have hp:([47]:List UInt8).isPrefixOf (b::(p++47::q))=false:=by simp [List.isPrefixOf];intro e;exact absurd e.symm (by simpa using hb)
  rw [eH,Lib.index,hp,JD q (λe=>h (aI _ e))];simp
theorem O8 {p:List UInt8} (h:(47:UInt8) ∉ p):Lib.split p [47]= [p]:=by
 unfold Lib.split;rw [Lib.count_miss (Nv h)];rfl
theorem Vf {p q:List UInt8} (h:(47:UInt8) ∉ p):Lib.split (p++47::q) [47]=p::Lib.split q [47]:=by
 unfold Lib.split;have hd:(p++47::q).drop (p.length+1)=q:=by simp
 rw [Lib.count_hit (by simp) (JD q h),show p.length+([47]:List UInt8).length=p.length+1 from rfl,hd,Nat.add_comm 1,Lib.splitK,JD q h,if_neg (by simp)];simp
theorem abA {a b:ByteArray} (h:a.data.toList=b.data.toList):a=b:=by
 cases a with| mk a=>simp_all
theorem J8:∀ {a b:List ByteArray},a.map (·.data.toList)=b.map (·.data.toList)->a=b
 | [],[],_=>rfl
 | [],_::_,h=>by grind
 | _::_,[],h=>by grind
 | x::a,y::b,h=>by
  simp only [cw,List.cons.injEq] at h;rw [abA h.1,J8 h.2]
section
variable {s last:ByteArray} {a k:Int} {acc:List ByteArray} {R:List ByteArray×Bool×Int}
end
theorem aat (a b:ByteArray):NU a b=(a.data.toList==b.data.toList):=by grind [NU, Lib.toList_data]
theorem NW (s:ByteArray):aav s=(s.data.toList== []):=aat s ⟨#[]⟩
end Go.LmN
namespace Go.LmN
open Go.Lm
open Go Go.RowKit

def jn:ByteArray->List ByteArray->ByteArray
 | acc,[]=>acc
 | acc,x::r=>jn (acc++⟨#[47]⟩++x) r
def iq (l:List ByteArray):ByteArray:=if l.length=0 then ⟨#[47]⟩ else jn ⟨#[]⟩ l
def lV (l:List ByteArray):List UInt8:=(l.map λx=>47::x.data.toList).flatten
theorem OE (a b:ByteArray):(a++b).data.toList=a.data.toList++b.data.toList:=by rfl
theorem Tp:∀ (l:List ByteArray) (acc:ByteArray),(jn acc l).data.toList=acc.data.toList++lV l
 | [],acc=>by simp [jn,lV]
 | x::r,acc=>by
  show (jn (acc++⟨#[47]⟩++x) r).data.toList=_;rw [Tp r,OE,OE];simp [lV]
theorem oN (l:List ByteArray):(iq l).data.toList=if l.length=0 then [47] else lV l:=by
 grind [iq, Tp]
theorem xQ (l:List ByteArray) (h:l.length≠0):lV l=47::Lib.join (l.map (·.data.toList)) [47]:=by
 cases l with
 | nil=>grind
 | cons x r=>
  rw [cw,Lib.join_cons];have:∀ r:List ByteArray,lV r=Lib.joinTail [47] (r.map (·.data.toList)):=λr=>by simp [lV,Lib.joinTail];rfl
  grind [lV]
theorem yW (l:List ByteArray):(⟨#[47]⟩:ByteArray)++⟨(Lib.join (l.map (·.data.toList)) [47]).toArray⟩=iq l:=by
 apply abA;simp_all [oN, Lib.join_nil, xQ]
theorem an3 (a b:ByteArray):(a++b).size=a.size+b.size:=by grind
section
variable {l:List ByteArray} {k:Int} {acc R:ByteArray}
end
theorem ZQ (l:List ByteArray):(Lib.join (l.map (·.data.toList)) [47]).length<=(iq l).size:=by
 grind [yW, j8]
theorem VZ (l:List ByteArray):(iq l).size=1+(Lib.join (l.map (·.data.toList)) [47]).length:=by
 grind [yW, j8]
theorem L8 {m:Nat}:∀ l:List ByteArray,(∀ x∈l,x.size<=m)->(lV l).length<=l.length*(m+1)
 | [],_=>by simp [lV]
 | x::r,h=>by
  have h1:=L8 r λy hy=>h y (aI _ hy)
  grind [aN, lV, j8, gR]
theorem L9:∀ l:List ByteArray,l.length<=(lV l).length
 | []=>by simp [lV]
 | x::r=>by
  have h1:=L9 r;have:(lV (x::r)).length=1+x.size+(lV r).length:=by simp [lV];omega
  rw [this,av];omega
theorem ZS {m:Nat} {l:List ByteArray} (h:∀ x∈l,x.size<=m):(iq l).size<=1+l.length*(m+1):=by
 rw [j8,oN];split;simp;have:=L8 l h;omega
theorem Qb {g w:World} {v:Value} {l:List ByteArray} (h:Is g v l) (hs:bt g w) (hl:l≠ []):
  ∃ bk o c,v= .slice (some ⟨bk,o,none⟩) l.length c/\(∀ (j:Nat) x,l[j]?=some x->w.cell? ⟨bk,o+j,none⟩=some (.string x))/\bk< w.heap.size/\l.length<=c:=by
 rcases dE.1 h with ⟨_,e⟩| ⟨⟨bk,o,sp⟩,cap,hv,hc,_,hx⟩
 .grind
 .obtain ⟨x,r,rfl⟩:=List.exists_cons_of_ne_nil hl;have Df:sp=none:=by
   obtain ⟨cs,h1,h2,_⟩:=hx 0 x rfl;have k0:=h1 0 (.string x) (by rw [h2];rfl);have e:(Addr.mk bk o sp).add (0*aQ.size ByteArray+0)=⟨bk,o,sp⟩:=by rfl
   unfold World.cell? at k0;split at k0
   .simp_all
   grind
  subst Df;have key:∀ (j:Nat) y,(x::r)[j]?=some y->w.cell? ⟨bk,o+j,none⟩=some (.string y):=λj y hj=>by
   obtain ⟨cs,h1,h2,_⟩:=hx j y hj;have:=h1 0 (.string y) (by grind);have e:(Addr.mk bk o none).add (j*aQ.size ByteArray+0)=⟨bk,o+j,none⟩:=by
    simp [Addr.add,aQ.size]
   rw [e] at this;exact hs _ _ this
  exact ⟨bk,o,cap,hv,key,World.block_lt_of_cell? w _ (key 0 x rfl),hc⟩
end Go.LmN
namespace Go.LmN
open Go.Lm
open Go Go.RowKit

theorem sh {x:ByteArray} (h:db x=0):x.size<=255/\aav x=false/\ann x=false/\akY x=false/\(47:UInt8) ∉ x.data.toList:=by
 unfold db at h;split at h;cases h
 .split at h
  .cases h
  .rename_i hd;simp only [kq,not_or,Bool.not_eq_true] at hd;obtain ⟨h1,h2⟩:=hd;unfold ake at h1;simp only [Bool.or_eq_false_iff] at h1;refine ⟨by omega,h1.1,h1.2.1,h1.2.2,λhm=>?_⟩;unfold AN at h2;rw [o9,List.any_eq_false] at h2;exact absurd (h2 47 hm) (by decide)
theorem vm:∀ {l:List (List UInt8)},l≠ []->(∀ x∈l,(47:UInt8) ∉ x)->Lib.split (Lib.join l [47]) [47]=l
 | [],h,_=>absurd rfl h
 | [x],_,h=>by grind [Lib.join_one, O8]
 | x::y::r,_,h=>by
  have e:Lib.join (x::y::r) [47]=x++47::Lib.join (y::r) [47]:=by
   rw [Lib.join_cons,Lib.join_cons];simp [Lib.joinTail]
  rw [e,Vf (h x (by simp)),vm (by simp) λz hz=>h z (aI _ hz)]
def abG (l:List ByteArray):Prop:=∀ x∈l,db x=0
theorem ZL {p q:List ByteArray}:key p=key q↔p=q:=by
 refine ⟨λh=>J8 ?_,by grind⟩
 grind [key, jy, Lib.toList_data]
theorem Zy {p:List ByteArray} (hp:abG p) (h:lV p= [47]):False:=by
 cases p with
 | nil=>trivial
 | cons x r=>
  obtain ⟨_,h1,_⟩:=sh (hp x (by simp))
  grind [NW, lV, List.append_eq_nil_iff]
theorem ZR {p q:List ByteArray} (hp:abG p) (hq:abG q):((iq p).toList==(iq q).toList)=SA p q:=by
 rw [Lib.toList_data,Lib.toList_data,xY,Bool.eq_iff_iff];simp only [beq_iff_eq,decide_eq_true_eq];rw [ZL];refine ⟨λh=>?_,by grind⟩;rw [oN,oN] at h;by_cases h1:p.length=0
 .by_cases h2:q.length=0
  .grind
  .grind [Zy]
 .by_cases h2:q.length=0
  .grind [Zy]
  .rw [if_neg h2,xQ p h1,xQ q h2] at h;have f:∀ l:List ByteArray,abG l->∀ x∈l.map (·.data.toList),(47:UInt8) ∉ x:=λl hl x hx=>by
    obtain ⟨y,hy,rfl⟩:=bp.1 hx;exact (sh (hl y hy)).2.2.2.2
   have s1:=vm (l:=p.map (·.data.toList)) (by simp_all) (f p hp);have s2:=vm (l:=q.map (·.data.toList)) (by simp_all) (f q hq)
   grind [J8]
theorem WY {l:List ByteArray} (h:abG l) (hl:l.length<=30):(iq l).size<=7681:=by
 have:=ZS (m:=255) λx hx=>(sh (h x hx)).1;omega
end Go.LmN

namespace Go.Lm
open Go
abbrev dg:Ty:=.pair .str (.pair (.int .i64) (.pair (.int .i64) .unit))
structure OQ (last:ByteArray) (x:dg.den):Prop where
 nm:db x.1=0
 lt:lS last x.1=true
 k:1<=(x.2.1:Int)/\(x.2.1:Int)<=3
 r:0<=(x.2.2.1:Int)/\(x.2.2.1:Int)<=4294967295
def iV:ByteArray->List dg.den->Prop
 | _,[]=>True
 | last,x::r=>OQ last x/\iV x.1 r
def xq (x:dg.den):List UInt8:=(az x.1.size::x.1.data.toList)++(aH 1 (x.2.1:Int).toNat++aH 4 (x.2.2.1:Int).toNat)
def gM:List dg.den->List UInt8
 | []=>[]
 | x::r=>xq x++gM r
theorem O4 {z:ByteArray} (h:db z=0):z.size<=255:=by
 grind [db]
theorem Dq {last:ByteArray} {x:dg.den} (h:OQ last x):6<=(xq x).length/\(xq x).length<=261:=by
 have:=O4 h.nm
 grind [xq, aD, j7]
theorem NV:∀ (l:List dg.den) (x:dg.den),gM (l++ [x])=gM l++xq x
 | [],x=>by show xq x++ []= []++xq x;rw [bf,gS]
 | y::l,x=>by show xq y++gM (l++ [x])=xq y++gM l++xq x;rw [NV l x,aM]
theorem xp:∀ {last:ByteArray} {l:List dg.den},iV last l->(gM l).length<=261*l.length
 | _,[],_=>aG _
 | _,x::r,⟨h1,h2⟩=>by
  have:=Dq h1;have:=xp h2;show (xq x++gM r).length<=261*(r.length+1);rw [af];omega
theorem YB {n:Nat} (h:n<=255):(az n).toNat=n:=by simp; omega
theorem anz {a b:ByteArray} (h:lS b a=true):(!(lS a b|| j9 a b))=true:=by
 rw [show (lS a b|| j9 a b)= !lS b a from Jw a b,h];rfl
theorem Wh (n:ByteArray) (k r:Int) (u:Unit) (l:List dg.den):gM ((n,k,r,u)::l)=az n.size::(n.data.toList++(aH 1 k.toNat++(aH 4 r.toNat++gM l))):=by
 grind [xq, gM]
end Go.Lm

namespace Go.Proofs
open Go Go.Lm Go.RowKit
set_option maxRecDepth 1000000
def xP:List (Nat×Ty):=(44,dg)::gV
def afv:Ct:=cS λs=>c0 λQ=>Q (.int (db s)) []
def acj:=ack.add KJ
abbrev nE (y0:SV->List HO->Prop):=y0 (.v (.c (.k (.int .i64 22)))) []
abbrev hU (y0:SV->List HO->Prop):=y0 (.v (.c (.k aT))) []
def K2 (s:ByteArray):dq:=λQ=>iN s (br (decide ((gQ s)>(255:Int))) (Q (.v (.c (.k (.int .i64 23)))) []) (br (j9 s gZ) (nE Q) (br (j9 s (ByteArray.mk #[(46:UInt8)])) (nE Q) (br (j9 s (ByteArray.mk #[(46:UInt8),(46:UInt8)])) 
 (nE Q) (aK (λi ag=>br (decide (i.2.1.2< ByteArray.size i.2.1.1)) (br ((↑(Utf8.decode i.2.1.1 i.2.1.2).1:Int)==0) (nE Q) (br ((↑(Utf8.decode i.2.1.1 i.2.1.2).1:Int)==47) (nE Q) (ag ((),(i.2.1.1,i.2.1.2+ 
 (Utf8.decode i.2.1.1 i.2.1.2).2),())))) (hU Q)) ((),(s,bx),()))))))
theorem Rc:cq 153 afv:=eI<| Zp λs=>gx λQ h=>by
 refine Wp.dy acj xP ⟨[(7,⟨[],[(0,.ab .iter)]⟩)],[]⟩ Tryz.f153 (K2 s) ?_;unfold K2 gZ hU iN nE gQ aT bx;intro hs;unfold db TK at h;refine ak (λh1=>?_) (λh1=>?_)
 .grind
 .have bad:∀ c,(kK s 0|| (j9 s ⟨#[]⟩|| (j9 s ⟨#[46]⟩|| j9 s ⟨#[46,46]⟩)))=c->Q (.int (if c=true then 22 else 0)) []:=by grind
  refine ak (by grind) (λh2=>ak (by grind) (λh3=>ak (by grind) (λh4=>?_)));have ok:∀ c,kK s 0=c->Q (.int (if c=true then 22 else 0)) []:=by grind
  refine aK.intro (λi=>i.2.1.1=s/\kK s i.2.1.2=kK s 0) (λi=>s.size - i.2.1.2) (by grind) ?_;rintro ⟨_,⟨z,p⟩,_⟩ ⟨rfl,hb⟩;simp only at hb ⊢;refine ak (λh5=>?_) (λh5=>?_)
  .have h5:p< z.size:=by grind
   have hr:kK z p=((((Utf8.decode z p).1:Int)==0|| ((Utf8.decode z p).1:Int)==47)|| kK z (p+(Utf8.decode z p).2)):=Go.LmN.WW z p h5;have hd:=Go.LmN.QF z p h5;refine ak (by grind) (λh6=>ak (by grind) (λh7=>⟨⟨trivial,?_⟩,?_⟩))
   .grind
   .omega
  .have h5:¬p< z.size:=by grind
   exact ok false (by rw [<-hb];exact Go.LmN.aby z p h5)
def abe:Ct:=cN dg λx=>cS λlast=>c0 λQ=>OQ last x/\Q (.bool true) []
def aci:=acj.add Rc
def FN:((dg).den)->(ByteArray)->dq:=
 λx last Q=>iN x.1 (bZ x.2.1 x.2.2.1 (dv last (aB .i64 (db x.1)->br (db x.1==0) (br (!(lS x.1 last|| j9 x.1 last)) (br (decide (x.2.1≥1)) (br (decide (x.2.1<=3)) (br (decide (x.2.2.1≥0)) (Q (.v (.c (.k 
 (.bool (decide (x.2.2.1<=4294967295)))))) []) (ba Q)) (ba Q)) (ba Q)) (ba Q)) (ba Q))))
theorem XZ:cq 178 abe:=eI<| PV λx=>Zp λlast=>gx λQ h=>by
 refine Wp.dy aci xP ⟨[],[]⟩ Tryz.f178 (FN x last) ?_;unfold FN dv iN bZ ba iW aJ;obtain ⟨⟨h1,h2,⟨k1,k2⟩,r1,r2⟩,h⟩:=h
 grind [anz, ak]
def OA:Ct:=cD dg λl=>c0 λQ=>(iV ⟨#[]⟩ l/\l.length<=1024)/\Q (.cC [.c (.d .u8 (gM l)),.c (.k (.int .i64 0))]) []
def ach:=aci.add XZ
abbrev yO (y0) (y1) (y2:SV->List HO->Prop):=y0=ah/\List.length y1<=100000000000/\(aJ (bw y1)->aB .i64 0->y2 (SV.cC [S1.c (Cl.d Ty.u8 y1),.c (.k aT)]) [])
abbrev gY (y0:List (dg).den) (y1):=aA dg y0 y1
def FP (l:(List (dg).den)):dq:=λQ=>List.length l<=9223372036854775807->aJ (List.length l)->aK (λi ag=>br (decide (i.1.1< (ay l))) (0<=i.1.1/\i.1.1< (ay l)/\(Ty.ok dg (gY l i.1.1)->OQ i.1.2.1 (gY l i.1.1)/\i.2.1.1=ah/\ 
 ByteArray.size (gY l i.1.1).1<=255/\List.length i.2.1.2.1<=1000000000/\pH ((ah<=(gY l i.1.1).2.1/\(gY l i.1.1).2.1< 256 ^ bH)/\List.length (i.2.1.2.1++az (ByteArray.size (gY l i.1.1).1):: 
 (gY l i.1.1).1.data.toList)<=100000000000/\bj ((aW<=cA/\cA<=cA)/\(ah<=(gY l i.1.1).2.2.1/\(gY l i.1.1).2.2.1< 256 ^ cQ)/\List.length (i.2.1.2.1++az (ByteArray.size (gY l i.1.1).1) 
 ::(gY l i.1.1).1.data.toList++aH bH (ax (gY l i.1.1).2.1))<=100000000000/\cj i.1.1 (ag ((i.1.1+1,(gY l i.1.1).1,()),(ah,i.2.1.2.1++az (ByteArray.size (gY l i.1.1).1)::(gY l 
 i.1.1).1.data.toList++aH bH (ax (gY l i.1.1).2.1)++aH cQ (ax (gY l i.1.1).2.2.1),()),())))))) (yO i.2.1.1 i.2.1.2.1 Q)) ((ah,ByteArray.mk #[],()),(ah,[],()),())
theorem KW:cq 130 OA:=eI<| iH λl=>gx λQ h=>by
 refine Wp.kE [some (.sl .u8),none] [] ?_;refine Wp.dy ach xP ⟨[(5,⟨[(10,.int .i64),(5,.str)],[(0,.cells 174 [.int .i64,.own 5 .u8])]⟩)],[]⟩ Tryz.f130 (FP l) ?_;unfold FP gY bj pH yO cj bw aT ah aW cA ay aJ bH cQ;obtain ⟨⟨hl,hn⟩,h⟩:=h;refine λ_ _=>aK.intro (λi=>(0<=i.1.1/\i.1.1<=l.length)/\iV i.1.2.1 (l.drop i.1.1.toNat)/\i.2.1.1=0/\i.2.1.2.1=gM (l.take i.1.1.toNat)/\i.2.1.2.1.length<=261*i.1.1.toNat) (λi=>(l.length - i.1.1).toNat) ⟨by grind,hl,rfl,rfl,aG _⟩ ?_;rintro ⟨⟨j,last,_⟩,⟨c,x,_⟩,_⟩ ⟨⟨j0,j1⟩,h1,h2,h3,h4⟩;simp only at j0 j1 h1 h2 h3 h4 ⊢;refine ak (λhc=>?_) (λhc=>?_)
 .have hc:j< (l.length:Int):=of_decide_eq_true hc;have ht:=ixT (e:=dg) j0 hc;rw [ixR (e:=dg) j0 hc] at h1;obtain ⟨y,hy⟩:∃ y,aA dg l j=y:=⟨_,rfl⟩;rw [hy] at h1 ht ⊢;obtain ⟨he,h1⟩:=h1;have hle:=Dq he;have hz:=O4 he.nm;have e:gM (l.take (j+1).toNat)=x++xq y:=by grind [NV]
  obtain ⟨n,k,r,u⟩:=y;obtain ⟨k0,k1⟩:=he.k;obtain ⟨r0,r1⟩:=he.r;have e2:x++az n.size::n.data.toList++aH 1 k.toNat++aH 4 r.toNat=gM (l.take (j+1).toNat):=by grind [xq]
  grind [aB]
 .have hc:¬j< (l.length:Int):=of_decide_eq_false hc;rw [aL (by omega)] at h3;subst h3;exact ⟨by trivial,by omega,λ_ _=>⟨aG _,h⟩⟩
def WL:Ct:=cD .u8 λb=>c0 λQ=>(∃ l,iV ⟨#[]⟩ l/\l.length<=1024/\b=gM l/\Q (.cC [.c (.d dg l),.c (.k (.int .i64 0))]) [])
def acg:=ach.add KW
abbrev MS (y0) (y1):=(fY (List.take (cz y0) y1),bJ (List.take bH (List.drop (cz y0) y1)),bJ (List.take cQ (List.drop 1 (List.drop (cz y0) y1))),())
abbrev sV {A1:Type} (y0) (y1:List A1):=List.drop (cz y0) y1
def BM (b:(List (Ty.u8).den)):dq:=λQ=>cJ b (fa (dr b)/\aK (λi ag=>i.2.1.1=ah/\(aB .i64 (aP i.2.1.2.1)->br (decide ((aP i.2.1.2.1)>ah)) (bj (∃ z r,i.2.1.2.1=z::r/\cz z<=List.length r/\fa (bw i.2.1.2.1)/\ 
 (aJ (ByteArray.size (fY (mZ z r)))->bj (aW<=aW/\aW<=cA/\aW<=(aP (sV z r))/\fa (List.length (sV z r))/\(aB .i64 (bJ (List.take bH (sV z r)))->bj (aW<=cA/\cA<=cA/\ 
 cA<=(aP (List.drop 1 (sV z r)))/\fa (List.length (List.drop 1 (sV z r)))/\(aB .i64 (bJ (List.take cQ (List.drop 1 (sV z r))))->aB .i64 0->OQ i.1.2.1 (MS z r)/\(List.length i.1.1+List.length [(MS z 
 r)])*32<=140737488355328/\List.length i.1.1+List.length [(MS z r)]<=9223372036854775807/\ag ((i.1.1++ [(MS z r)],fY (mZ z r),()),(ah,List.drop cQ (List.drop 1 (sV z r)),()),())))))))) (Q lD [.sl 44 
 dg i.1.1]))) (([],ByteArray.mk #[],()),(ah,b,()),()))
theorem E9:cq 151 WL:=eI<| iH λb=>gx λQ h=>by
 refine Wp.kE [some (.sl dg),none] [0] ?_;refine Wp.dy acg xP ⟨[(5,⟨[(5,.own 44 dg),(6,.str)],[(0,.cells 187 [.int .i64,.d .u8])]⟩)],[]⟩ Tryz.f151 (BM b) ?_;unfold BM bj sV mZ dr lD MS bw cJ aT ah aW cA aP fa aJ bH cQ;obtain ⟨l,hl,hn,rfl,h⟩:=h;have hbl:=xp hl;refine λ_=>⟨by omega,aK.intro (λi=>∃ j,j<=l.length/\i.1.1=l.take j/\iV i.1.2.1 (l.drop j)/\i.2.1.1=0/\i.2.1.2.1=gM (l.drop j)) (λi=>i.2.1.2.1.length) ⟨0,cM _,rfl,hl,rfl,rfl⟩ ?_⟩;rintro ⟨⟨o,last,_⟩,⟨c,x,_⟩,_⟩ ⟨j,j1,h1,h2,h3,h4⟩;simp only at j1 h1 h2 h3 h4 ⊢;subst h1 h3 h4;have hj:(l.take j).length=j:=by rw [aF];omega
 refine ⟨by trivial,λ_=>?_⟩;rcases eT j l.length with fB| hge
 .rw [bM fB] at h2 ⊢;have Qo:=xp h2;simp only [av,aR] at Qo;obtain ⟨y,hy⟩:∃ y,l[j]=y:=⟨_,rfl⟩;have ht:l.take j++ [y]=l.take (j+1):=by rw [bY fB,hy]
  rw [hy] at h2 Qo ⊢;obtain ⟨he,h2⟩:=h2;have hle:=Dq he;have hz:=O4 he.nm;obtain ⟨n,k,r,⟨⟩⟩:=y;obtain ⟨k0,k1⟩:=he.k;obtain ⟨r0,r1⟩:=he.r;have hu:=YB hz;have hs:n.data.toList.length=n.size:=(j7 n).symm;have e1:bJ (aH 1 k.toNat)=k:=ev (Int.le_trans (by decide) k0) (Int.lt_of_le_of_lt k1 (by decide));have e4:bJ (aH 4 r.toNat)=r:=ev r0 (Int.lt_of_le_of_lt r1 (by decide));rw [Wh] at Qo ⊢;simp only [av,af,aD] at Qo;refine ak (λ_=>⟨by trivial,_,_,rfl,?_⟩) (λhc=>absurd (of_decide_eq_false hc) (by simp only [av];omega));rw [hu,List.take_left' hs,List.drop_left' hs,iG,iJ,iG,iJ,e1,e4,zq];refine ⟨by simp only [af];omega,by simp only [av,af,aD];omega,λ_=>⟨by trivial,by decide,by decide,by simp only [af,aD];omega,by simp only [af,aD];omega,λ_=>⟨by trivial,by decide,by decide,by simp only [af,aD];omega,by simp only [af,aD];omega,λ_ _=>⟨he,by rw [hj,aE];omega,by rw [hj,aE];omega,⟨j+1,fB,ht,h2,by trivial,by trivial⟩,?_⟩⟩⟩⟩;simp only [av,af,aD];omega
 .rw [List.drop_of_length_le hge,aL hge];exact ak (λhc=>by cases hc) (λ_=>⟨cM _,h⟩)
end Go.Proofs

namespace Go.Lm
open Go Go.RowKit Go.Maps Go.WideShapes
section
variable {W:cV} {g w w':World} {l:List Atom} {et:TypeId} {size n:Nat} {v:Value} {xs:List Value}
theorem SL.fresh (H:SL W g w l) (e:Le w w') (ho:w'.ownsRow w.heap.size et size v n xs):SL W g w' (uG et size v n xs::l):=by
 obtain ⟨hl,⟨rfl,rfl⟩| ⟨k,cap,cur,rfl,hk,hb,r⟩⟩:=ho
 .have:xs= []:=bB (by simpa using hl);subst this;exact (H.le e).YX et size
 .obtain ⟨h,be,s,ow,t⟩:=H;have hkn:h k=none:=by
   cases hx:h k with
   | none=>rfl
   | some x=>have:=xD (ow k x hx).2.1;omega
  have hni:tQ g k:=λa ha=>by
   cases hc:g.cell? a with
   | none=>rfl
   | some x=>
    have h1:=World.block_lt_of_cell? w a (s.mono a x hc);omega
  refine ⟨Hp.join (λj=>if j=k then some (.cells cur et (0,0)) else none) h,e.QZ be,s.le e,λj x hx=>?_,_,h,λj=>?_,rfl,⟨hl,.inr ⟨k,cap,cur,rfl,if_pos rfl,r⟩⟩,t⟩
  .unfold Hp.join at hx;by_cases q:j=k
   .subst q;simp at hx;subst hx;exact ⟨Nat.le_trans be.size hk,hb,hni⟩
   .simp [q] at hx;obtain ⟨o1,o2,o3⟩:=ow j x hx;exact ⟨o1,e.jH o2,o3⟩
  .by_cases q:j=k
   .subst q;exact .inr hkn
   .left;simp [q]
end
section
variable {P:Program} {I:cV->Prop} {f fk:FuncId} {Q:SV->List HO->Prop} {T:UTy} {q1 q2 nx:Int} {mb:Nat} {L:List (Int×rY)}
end
end Go.Lm

namespace Go.Proofs
open Go Go.RowKit Go.Maps Go.Sort Go.Shelf Go.Lm
set_option maxRecDepth 1000000
def Tryz.GR:Go.Shelf.Ren:=⟨fun| 7=>74| 10=>126| n=>n,fun| 23=>151| 26=>3| 3=>4| 28=>154| 0=>0| 27=>153| 33=>170| 4=>4| n=>n,fun| n=>n⟩
theorem Tryz.amO:Go.Proofs.SlLaysZI.n7 cg Tryz.GR:= {
 mixed:=by kernel_rfl
 f7:=⟨"maps.Keys[map[int]bool,int,bool]",by kernel_rfl,Tryz.func74.trans (congrArg some (by kernel_rfl))⟩
 f10:=⟨"maps.Keys[map[int]bool,int,bool]$1",by kernel_rfl,Tryz.func126.trans (congrArg some (by kernel_rfl))⟩
 t0:=Tryz.underlying0
 a0:=Tryz.isAgg0
 z0:=Tryz.sizeOf0
 v0:=Tryz.zeroValue0
 t4:=Tryz.underlying4
 a4:=Tryz.isAgg4
 z4:=Tryz.sizeOf4
 v4:=Tryz.zeroValue4
 t23:=Tryz.underlying151
 a23:=Tryz.isAgg151
 z23:=Tryz.sizeOf151
 v23:=Tryz.zeroValue151
 t26:=Tryz.underlying3
 a26:=Tryz.isAgg3
 z26:=Tryz.sizeOf3
 v26:=Tryz.zeroValue3
 t27:=Tryz.underlying153
 a27:=Tryz.isAgg153
 z27:=Tryz.sizeOf153
 v27:=Tryz.zeroValue153
 t28:=Tryz.underlying154
 a28:=Tryz.isAgg154
 z28:=Tryz.sizeOf154
 v28:=Tryz.zeroValue154
 t33:=Tryz.underlying170
 a33:=Tryz.isAgg170
 z33:=Tryz.sizeOf170
 v33:=Tryz.zeroValue170}
def Tryz.B4:Go.Shelf.Ren:=⟨fun| 6=>73| 8=>124| 9=>125| 11=>171| n=>n,fun| 26=>3| 28=>154| 24=>29| 0=>0| 3=>4| 4=>4| 33=>170| n=>n,fun| n=>n⟩
theorem Tryz.ai0:Go.Proofs.SlLaysZI.n6 cg Tryz.B4:= {
 mixed:=by kernel_rfl
 f6:=⟨"slices.Sorted[int]",by kernel_rfl,Tryz.func73.trans (congrArg some (by kernel_rfl))⟩
 f8:=⟨"slices.Collect[int]",by kernel_rfl,Tryz.func124.trans (congrArg some (by kernel_rfl))⟩
 f11:=⟨"slices.AppendSeq[[]int,int]",by kernel_rfl,Tryz.func171.trans (congrArg some (by kernel_rfl))⟩
 t0:=Tryz.underlying0
 a0:=Tryz.isAgg0
 z0:=Tryz.sizeOf0
 v0:=Tryz.zeroValue0
 t24:=Tryz.underlying29
 a24:=Tryz.isAgg29
 z24:=Tryz.sizeOf29
 v24:=Tryz.zeroValue29
 t26:=Tryz.underlying3
 a26:=Tryz.isAgg3
 z26:=Tryz.sizeOf3
 v26:=Tryz.zeroValue3
 t28:=Tryz.underlying154
 a28:=Tryz.isAgg154
 z28:=Tryz.sizeOf154
 v28:=Tryz.zeroValue154
 i26:=by kernel_rfl}
theorem aeb (m:Nat):AnyZI.SortsIn cg Tryz.B4 Fence.wide m:=
  ⟨λpc off cap ss W hH hblk mM=>callsIn_wide.2 (Tryz.slices_Sort_int pc off cap ss W hH hblk mM),
   λp cap W=>callsIn_wide.2 (Tryz.slices_Sort_int_none p cap W)⟩
theorem amN (w:World) (u ib:Nat) (D0:DataW Value) (hu:u< w.heap.size) (hc:w.cell? ⟨u,0,none⟩=some (.map (some ib))) (ho:w.ownsMap cg 3 eK ib (Maps.size D0) D0) (hs:Maps.size D0<=1099511627776):
  Calls cg 73 #[.func (.func 126) #[] #[.pointer (some ⟨u,0,none⟩)]] w λe w'=>∃ (v:Value) (ss:List Int),e= .returned v/\ss.Perm (intKeys D0)/\w'.ownsRow w.heap.size 3 1 v ss.length ((ss.mergeSort λx y=>decide (x<=y)).map encZ)/\Below w.heap.size w w':=by
 refine (callsIn_wide (n:=5)).1 ?_;have aps:SeqGives Fence.wide 2 cg 126 #[.pointer (some ⟨u,0,none⟩)] encZ (λss=>ss.Perm (intKeys D0)) (Maps.size D0) w:=
  AnyZI.keys_gives (ρ:=Tryz.GR) {Tryz.amO with} Fence.wide _ trivial rfl (by omega) u ib _ D0 _ hu hc ho
 have cS:=AnyZI.sorted_in Tryz.ai0 Fence.wide 5 trivial trivial trivial trivial rfl (by omega) (aeb _) (enters_of Tryz.func125 (by kernel_rfl) rfl) 126 #[.pointer (some ⟨u,0,none⟩)] trivial (enters_of Tryz.func126 (by kernel_rfl) rfl) _ _ (by unfold maxLen;omega) (by omega) _ aps;exact cS.mono λe w' ⟨v,ss,h1,h2,h3,_,h4⟩=>⟨v,ss,h1,h2,h3,h4⟩
end Go.Proofs

namespace Go.Lm
open Go Go.RowKit Go.Maps Go.WideShapes
structure xG (xs ks:List Int):Prop where
 perm:xs.Perm ks
 Md:xs.Pairwise λa b=>a<=b
theorem Me {ks ss:List Int} (h:ss.Perm ks):xG (ss.mergeSort λx y=>decide (x<=y)) ks:=by
 refine ⟨(List.mergeSort_perm ss _).trans h,?_⟩;have h1:(ss.mergeSort λx y=>decide (x<=y)).Pairwise λx y=>decide (x<=y)=true:=List.pairwise_mergeSort (le:=λx y:Int=>decide (x<=y)) (λa b c h1 h2=>by
   simp only [decide_eq_true_eq] at h1 h2 ⊢;exact Int.le_trans h1 h2) (λa b=>by
   simp only [kq,decide_eq_true_eq];exact Int.le_total a b) ss
 exact h1.imp λh2=>by simpa using h2
theorem Tt (g:World):∀ (l:List Int),(∀ s∈l,(Lit.int .i64 s).wf=true)->eF (α:=(Ty.int .i64).den) g (l.map λs=>[Value.int .i64 s]) l
 | [],_=>trivial
 | s::l,h=>⟨⟨rfl,h s (by simp)⟩,Tt g l λx hx=>h x (by simp [hx])⟩
theorem C0 {g:World} {k:Kk} {e:Ty}:∀ {l:List (k.den×Value)} {xs:List (k.den×e.den)},rW g k e l xs->xs.map (·.1)=l.map (·.1)
 | [],_,h=>by rw [show _= [] from h];rfl
 | p::l,_,⟨x,r,h1,_,h3⟩=>by rw [h1,cw,cw,C0 h3]
section
variable {P:Program} {I:cV->Prop} {f fk:FuncId} {Q:SV->List HO->Prop}
theorem Wp.O9 {tK tM:TypeId} {e:Ty} {xs:List (Int×e.den)} (hkT:P.underlying tK=some (.int .i64))
  (hC:∀ (w:World) (u ib:Nat) (D0:DataW Value),u< w.heap.size->w.cell? ⟨u,0,none⟩=some (.map (some ib))->w.ownsMap P tK eK ib (Maps.size D0) D0->Maps.size D0<=1099511627776->
   Calls P f #[.func (.func fk) #[] #[.pointer (some ⟨u,0,none⟩)]] w λe w'=>∃ (v:Value) (ss:List Int),e= .returned v/\ss.Perm (intKeys D0)/\w'.ownsRow w.heap.size tK 1 v ss.length ((ss.mergeSort λx y=>decide (x<=y)).map encZ)/\Below w.heap.size w w')
  (hen:xs.length<=1099511627776)
  (hq:∀ ys,xG ys (xs.map (·.1))->Q (.c (.o 2)) [.cells tM [.m 1],.map tK .int e xs,.sl tK (.int .i64) ys]):
  Wp I P f [.v (.c (.fn fk [.p 0 0]))] [.cells tM [.m 1],.map tK .int e xs] Q:=by
 intro W hW g w E F vs S Ef;obtain ⟨a,rfl,us,⟨_,ve,rfl,hu,ae0⟩,rfl⟩:=tZ Ef;obtain ⟨h0,be,se,ow,k1,k2,ap,rfl,⟨b,us,hE,hrel,hb⟩,k3,k4,ap2,rfl,⟨mb,m,hE1,hms,P',hkk,aaa⟩,s3⟩:=S.sl;have aaa:(mapA P tK mb m).sat g k3:=Jt (k:=.int) hkk (by unfold ke;rw [hkT]) aaa;obtain ⟨es,clock,e2,rep⟩:=aaa;obtain ⟨_,us2,rfl,⟨OS,hE2,rfl⟩,Xf⟩:=hrel;obtain rfl:us2= []:=Xf;obtain rfl:ve= []:=ae0;have hmm:OS=mb:=by rw [hE1] at hE2;simpa [ptr] using hE2.symm
 subst hmm;obtain ⟨b',hE',rfl⟩:=hu;rw [hE] at hE';obtain rfl:b=b':=by simpa [ptr] using hE'
 have hbb:w.heap[b]?=some (.cells #[.map (some OS)] tM (0,0)):=by
  have a1:=Hp.eM.1 ap;exact (ow b _ (Hp.fK hb)).2.1
 have hmb:w.heap[OS]?=some (.map es clock):=by
  refine (ow OS _ ?_).2.1;rw [Hp.mz ?_];exact Hp.fK e2
  .rcases (Hp.eM.1 ap).1 OS with q| q
   .exact q
   .rw [e2] at q;cases q
 have hxm:xs.map (·.1)=m.map (·.1):=C0 (k:=.int) hms;have Am:∀ z∈m.map (·.1),(Lit.int .i64 z).wf=true:=λz hz=>by
  obtain ⟨p,hp,rfl⟩:=bp.1 hz;have h1:lq p∈es.toList.map (Go.WideElems.rg P tK eK):=rep.perm.mem_iff.2 (bp.2 ⟨p,hp,rfl⟩);obtain ⟨x,hx,hxe⟩:=bp.1 h1;obtain ⟨kl,ND,yX⟩:=mV rep.fit hx;rw [yX] at hxe;have:kl=dK.lit p.1:=congrArg Prod.fst hxe;subst this;exact ((xe hkT).inv _ _ ND).2
 have mM:es.size=m.length:=rep.size;have hlm:m.length=xs.length:=by have:=congrArg List.length hxm;simpa using this.symm
 have hD:Maps.size (H:=Value) (.map ((es.toList.map (Go.WideElems.rg P tK eK)).foldr DataW.insert []))=m.length:=by
  show ((es.toList.map (Go.WideElems.rg P tK eK)).foldr DataW.insert []).length=_;rw [(sorted_perm _).length_eq,bT];simpa using mM
 have Qq:w.cell? ⟨b,0,none⟩=some (.map (some OS)):=by
  simp [World.cell?,hbb]
 refine (hC w b OS _ (xD hbb) Qq ⟨es,clock,hmb,rep.fit,?_,rfl⟩ ?_).mono λe w' ⟨v',ss,he,hp,tx,aql⟩=>?_;rw [hD];omega;rw [hD];omega;have hp2:ss.Perm (xs.map (·.1)):=by
  refine hp.trans ?_;have h1:=((sorted_perm (H:=Value) (es.toList.map (Go.WideElems.rg P tK eK))).trans rep.perm).map λp=>Go.intOf p.1;refine h1.trans (List.Perm.of_eq ?_);rw [List.map_map,hxm];rfl
 have agG:=Me hp2;have hlen:(ss.mergeSort λx y=>decide (x<=y)).length=ss.length:=(List.mergeSort_perm ss _).length_eq;refine ⟨v',he,E++ [v'],g,.c (.o 2),_,bu.app _ _,bt.refl g,Sat.push (o:=.sl tK (.int .i64) (ss.mergeSort λx y=>decide (x<=y))) S.len ?_,?_,hq _ agG⟩
 .refine (S.sl.fresh aql tx).cv λhh ⟨p1,p2,ap3,q3,sr,sF⟩=>⟨p1,p2,ap3,q3,⟨v',by rw [<-S.len];simp,(ss.mergeSort λx y=>decide (x<=y)).map (λs=>[Value.int .i64 s]),?_,?_⟩,sF⟩
  .exact Tt g _ λs hs=>Am s (by rw [<-hxm];exact agG.perm.mem_iff.1 hs)
  .show (uG tK 1 v' (ss.mergeSort λx y=>decide (x<=y)).length _).sat g p1;rw [hlen];have e3:((ss.mergeSort λx y=>decide (x<=y)).map (λs=>[Value.int .i64 s])).flatten=(ss.mergeSort λx y=>decide (x<=y)).map encZ:=by
    induction (ss.mergeSort λx y=>decide (x<=y)) with
    | nil=>rfl
    | cons x l ih=>rw [cw,dz,ih];rfl
   rw [e3];exact sr
 .refine ⟨by rw [show (2:Nat)=E.length from S.len.symm];simp,?_⟩;rcases tx.2 with ⟨rfl,_⟩| ⟨k,cap,cur,rfl,_⟩
  .exact ⟨_,_,_,rfl⟩
  .exact ⟨_,_,_,rfl⟩
end
end Go.Lm

namespace Go.Lm
open Go
def vf (n:noTy.den):Int:=n.2.2.2.1.2.1
def zb (n:noTy.den):Int:=n.2.2.2.1.2.2.1
structure OP (l:List noTy.den) (ys:List Int):Prop where
 Md:ys.Pairwise (· < ·)
 mem:∀ y,y∈ys↔∃ n∈l,y=vf n\/y=zb n
 len:ys.length<=2*l.length
structure Xb (l:List noTy.den) (M:List (Int×Bool)):Prop where
 nd:(M.map (·.1)).Nodup
 mem:∀ y,y∈M.map (·.1)↔∃ n∈l,y=vf n\/y=zb n
 len:M.length<=2*l.length
def gy (n:Nat) (l:List Int):List UInt8:=l.flatMap λx=>aH n x.toNat
theorem ka (n:Nat):∀ l:List Int,(gy n l).length=n*l.length
 | []=>by simp [gy]
 | x::l=>by
  have:=ka n l;unfold gy at*;rw [pd,af,aD,this,av,Nat.mul_succ];omega
theorem VJ (n:Nat) (l:List Int) (x:Int):gy n (l++ [x])=gy n l++aH n x.toNat:=by
 unfold gy;rw [List.flatMap_append];simp
theorem CQ (M:List (Int×Bool)) (k:Int) (v:Bool):(Kk.put .int M k v:List (Int×Bool)).map (·.1)=k::(M.map (·.1)).filter (λx=> !decide (x=k)):=by
 show k::(List.map (·.1) (List.filter (λp:Int×Bool=> !decide (p.1=k)) M))=_;congr 1;rw [List.filter_map];rfl
theorem Zd {M:List (Int×Bool)} (h:(M.map (·.1)).Nodup) (k:Int) (v:Bool):((Kk.put .int M k v:List (Int×Bool)).map (·.1)).Nodup:=by
 rw [CQ];exact gj.2 ⟨by simp,h.filter _⟩
theorem SQ (M:List (Int×Bool)) (k:Int) (v:Bool) (y:Int):y∈(Kk.put .int M k v:List (Int×Bool)).map (·.1)↔y=k\/y∈M.map (·.1):=by
 rw [CQ,bm,gk];by_cases e:y=k;simp [e];simp [e]
theorem CP (M:List (Int×Bool)) (k:Int) (v:Bool):(Kk.put .int M k v:List (Int×Bool)).length<=M.length+1:=by
 have:=congrArg List.length (CQ M k v);rw [bT,av] at this;rw [this];have:=List.length_filter_le (λx=> !decide (x=k)) (M.map (·.1));rw [bT] at this;omega
theorem Xb.step {l:List noTy.den} {M:List (Int×Bool)} (h:Xb l M) (n:noTy.den):Xb (l++ [n]) (Kk.put .int (Kk.put .int M (vf n) true:List (Int×Bool)) (zb n) true):=by
 refine ⟨Zd (Zd h.nd _ _) _ _,λy=>?_,?_⟩
 .rw [SQ,SQ,h.mem];constructor
  .rintro (e| e| ⟨m,hm,e⟩)
   .exact ⟨n,by simp,.inr e⟩
   .exact ⟨n,by simp,.inl e⟩
   .exact ⟨m,by simp [hm],e⟩
  .rintro ⟨m,hm,e⟩;rcases aV.1 hm with hm| hm
   .exact .inr (.inr ⟨m,hm,e⟩)
   .obtain rfl:m=n:=by simpa using hm
    rcases e with e| e;exact .inr (.inl e);exact .inl e
 .have h1:=CP (Kk.put .int M (vf n) true:List (Int×Bool)) (zb n) true;have h2:=CP M (vf n) true;have h3:=h.len;rw [af,aE];omega
theorem Xb.ids {l:List noTy.den} {M:List (Int×Bool)} (h:Xb l M) {ys:List Int} (hs:xG ys (M.map (·.1))):OP l ys:=by
 refine ⟨?_,λy=>by rw [hs.perm.mem_iff];exact h.mem y,by rw [hs.perm.length_eq,bT];exact h.len⟩;have hn:ys.Nodup:=hs.perm.nodup_iff.2 h.nd;refine List.Pairwise.imp₂ (λa b h1 h2=>?_) hs.Md hn;have h1:a<=b:=h1;have h2:a≠b:=h2;omega
theorem ao6 (fs:List (List UInt8)):(0:Int)=(dS fs 0:Nat):=by unfold dS;simp
theorem PX (n:Nat) {l:List Int} {j:Nat} (h:j< l.length):((gy n l).drop (n*j)).take n=aH n (l[j]).toNat:=by
 have e:l=l.take j++l[j]::l.drop (j+1):=by rw [<-bM h,bK]
 have e2:gy n l=gy n (l.take j)++(aH n (l[j]).toNat++gy n (l.drop (j+1))):=by
  conv=>lhs;rw [e]
  unfold gy;rw [List.flatMap_append,pd]
 rw [e2,List.drop_left' (by rw [ka,aF,py (Nat.le_of_lt h)]),List.take_left' (aD _ _)]
theorem ags {n:Int} (h:n=2\/n=4):(1<=n/\n<=4)/\(1<=n.toNat/\n.toNat<=4):=by omega
end Go.Lm

namespace Go.Proofs
open Go Go.Lm Go.RowKit
set_option maxRecDepth 1000000
def T8:Ct
 | [.v (.c (.m 0))],[.map 3 .int .bool M],Q=>Q (.c (.fn 126 [.p 1 0])) [.map 3 .int .bool M,.cells 151 [.m 0]]
 | _,_,_=>False
def acf:=acg.add E9
def LB (M:(List (Int×Bool))):dq:=λQ=>Q (SV.v (S1.c (Cl.fn (126:Nat) [.p 1 0]))) [HO.map (3:TypeId) Kk.int Ty.bool M,.cells 151 [Cl.m bx]]
theorem adS:cq 74 T8:=by
 intro args H Q h;unfold T8 at h;split at h;rotate_left;cases h;rename_i M;refine Wp.dy acf xP ⟨[],[]⟩ Tryz.f74 (LB M) ?_;unfold LB bx;exact h
def TT:Ct
 | [.v (.c (.fn 126 [.p 0 0]))],[.cells 151 [.m 1],.map 3 .int .bool M],Q=>M.length<=1099511627776/\∀ ys,xG ys (M.map (·.1))->Q (.c (.o 2)) [.cells 151 [.m 1],.map 3 .int .bool M,.sl 3 (.int .i64) ys]
 | _,_,_=>False
theorem adt:cq 73 TT:=by
 intro args H Q h;unfold TT at h;split at h;exact Wp.O9 (tM:=151) Tryz.underlying3 amN h.1 h.2;cases h
def xO:List (Nat×Ty):=(38,noTy)::xP
def anP:Ct:=cD noTy λl=>c0 λQ=>l.length<=1100/\∀ ys,OP l ys->Q (.c (.d (.int .i64) ys)) []
def ace:=(acf.add adS).add adt
abbrev di (y0:List (noTy).den) (R:Prop):=List.length y0<=9223372036854775807->R
abbrev cH (y0:List (noTy).den) (y1):=aA noTy y0 y1
abbrev dL (y0) (y1:List (noTy).den) (R:Prop):=0<=y0/\y0< (ay y1)/\R
abbrev eh (y0) (y1:List (noTy).den):=decide (y0< (ay y1))
abbrev fm (y0:List (noTy).den) (y1) (R:Prop):=Ty.ok noTy (cH y0 y1)->R
def Yg (l:(List (noTy).den)):dq:=λQ=>di l (aJ (List.length l)->aK (λi ag=>br (eh i.1.1 l) (dL i.1.1 l (fm l i.1.1 (mc i.2.1 (List.length (Kk.put Kk.int i.2.1 (cH l i.1.1).2.2.2.1.2.1 true)< 9223372036854775807/\cj i.1.1 (ag 
 ((i.1.1+1,()),Kk.put Kk.int (Kk.put Kk.int i.2.1 (cH l i.1.1).2.2.2.1.2.1 true) (cH l i.1.1).2.2.2.1.2.2.1 true,())))))) (List.length i.2.1<=1099511627776/\∀ (ys:List Int),xG ys (List.map (λx=>x.1) i.2.1)->Q 
 eY [.sl 3 bq ys])) ((ah,()),[],()))
theorem agf:cq 48 anP:=eI<| iH λl=>gx λQ h=>by
 refine Wp.kE [some (.sl (.int .i64))] [0] ?_;refine Wp.dy ace xO ⟨[(4,⟨[(9,.int .i64)],[(0,.map 3 .int .bool)]⟩)],[]⟩ Tryz.f48 (Yg l) ?_;unfold Yg fm mc eY eh dL cH cj di ah ay aJ bq;obtain ⟨hl,h⟩:=h;refine λ_ _=>aK.intro (λi=>(0<=i.1.1/\i.1.1<=l.length)/\Xb (l.take i.1.1.toNat) i.2.1) (λi=>(l.length - i.1.1).toNat) ⟨⟨bh _,by show (0:Int)<=_;omega⟩,⟨List.nodup_nil,λy=>by simp,cM _⟩⟩ ?_;rintro ⟨⟨j,_⟩,M,_⟩ ⟨⟨j0,j1⟩,h1⟩;simp only at j0 j1 h1 ⊢;have hm:=h1.len;rw [aF] at hm;refine ak (λhc=>?_) (λhc=>?_)
 .have hc:j< (l.length:Int):=of_decide_eq_true hc;have hs:=h1.step (aA noTy l j);rw [<-ixT (e:=noTy) j0 hc] at hs;have hp:=CP M (vf (aA noTy l j)) true;exact ⟨j0,hc,λ_=>⟨by omega,Nat.lt_of_le_of_lt hp (by omega),by unfold aB;omega,⟨⟨by omega,by omega⟩,hs⟩,by omega⟩⟩
 .have hc:¬j< (l.length:Int):=of_decide_eq_false hc;rw [aL (by omega)] at h1;exact ⟨by omega,λys hy=>⟨cM _,h ys (h1.ids hy)⟩⟩
def akI:Ct:=cI λn=>c0 λQ=>(n=2\/n=4)/\Q (.bool true) []
def acd:=ace.add agf
def R9 (n:Int):dq:=λQ=>aB .i64 n->br (n==2) (Q ml []) (Q (.v (.c (.k (.bool (n==4))))) [])
theorem aiE:cq 85 akI:=eI<| nF λn=>gx λQ h=>by
 refine Wp.dy acd xO ⟨[],[]⟩ Tryz.f85 (R9 n) ?_;unfold R9 ml;obtain ⟨hn,h⟩:=h;refine λ_=>ak (λ_=>h) (λhc=>?_);have:n=4:=by rcases hn with e| e;rw [e] at hc;cases hc;exact e
 rw [this];exact h
def Wx:Ct:=cD (Ty.int .i64) λl=>cI λn=>c0 λQ=>(n=2\/n=4)/\(∀ x∈l,0<=x/\x< 256 ^ n.toNat)/\l.length<=100000/\Q (.cC [.c (.d .u8 (gy n.toNat l)),.c (.k (.int .i64 0))]) []
def acb:=acd.add aiE
def Bu (l:(List ((Ty.int .i64)).den)) (n:Int):dq:=λQ=>ix l (aB .i64 n->(n=dm\/n=cA)/\(aJ (List.length l)->aK (λi ag=>br (decide (i.1.1< (ay l))) (0<=i.1.1/\i.1.1< (ay l)/\(Ty.ok bq (aA bq l i.1.1)->i.2.1.1=ah/\(1<=n/\n<=4)/\(0 
 <=aA bq l i.1.1/\aA bq l i.1.1< 256 ^ ax n)/\List.length i.2.1.2.1<=100000000000/\cj i.1.1 (ag ((i.1.1+1,()),(ah,i.2.1.2.1++aH (aS n) (ax (aA bq l i.1.1)),()),())))) (yO i.2.1.1 i.2.1.2.1 
 Q)) ((ah,()),(ah,[],()),())))
theorem EP:cq 53 Wx:=eI<| iH λl=>nF λn=>gx λQ h=>by
 refine Wp.kE [some (.sl .u8),none] [] ?_;refine Wp.dy acb xO ⟨[(6,⟨[(14,.int .i64)],[(0,.cells 174 [.int .i64,.own 5 .u8])]⟩)],[]⟩ Tryz.f53 (Bu l n) ?_;unfold Bu ix yO cj bw aT aS ah dm cA ay aJ bq;obtain ⟨hn,hx,hl,h⟩:=h;obtain ⟨h14,n1,n4⟩:=ags hn;refine λ_ _=>⟨hn,λ_=>aK.intro (λi=>(0<=i.1.1/\i.1.1<=l.length)/\i.2.1.1=0/\i.2.1.2.1=gy n.toNat (l.take i.1.1.toNat)) (λi=>(l.length - i.1.1).toNat) ⟨⟨bh _,by show (0:Int)<=_;omega⟩,rfl,rfl⟩ ?_⟩;rintro ⟨⟨j,_⟩,⟨c,x,_⟩,_⟩ ⟨⟨j0,j1⟩,h1,h2⟩;simp only at j0 j1 h1 h2 ⊢;subst h1;have hxl:x.length<=4*l.length:=by
  rw [h2,ka,aF];exact Nat.mul_le_mul n4 (Nat.min_le_right _ _)
 refine ak (λhc=>?_) (λhc=>?_)
 .have hc:j< (l.length:Int):=of_decide_eq_true hc;have hm:=hx _ (tv (e:=.int .i64) j0 hc);exact ⟨j0,hc,λ_=>⟨by trivial,h14,hm,by omega,by unfold aB;omega,⟨⟨by omega,by omega⟩,by trivial,by rw [ixT (e:=.int .i64) j0 hc,VJ,h2]⟩,by omega⟩⟩
 .have hc:¬j< (l.length:Int):=of_decide_eq_false hc;rw [aL (by omega)] at h2;subst h2;exact ⟨by trivial,by omega,λ_ _=>⟨aG _,h⟩⟩
def QR:Ct:=cP<| cI λm=>cI λn=>cO λH Q=>match H with
 | [.abs A]=>∃ fs R,RB A fs R/\(n=2\/n=4)/\∃ l:List Int,(∀ x∈l,0<=x/\x< 256 ^ n.toNat)/\R=gy n.toNat l/\m=l.length/\l.length<=100000/\∀ A',RB A' fs R->Q (.cC [.c (.d (.int .i64) l),.c (.k (.int .i64 0))]) [.abs A']
 | _=>False
def aca:=acb.add EP
abbrev Y7 (y0:Int) (y1:SV->List HO->Prop) (y2) (y3) (y4):=br (y0 !=0) (y1 (.cC [.c dD,.c (.k (.int .i64 2))]) [HO.abs y2]) (∃ fs R,RB y2 fs R/\∃ o,o<=List.length R/\y3=(↑(dS fs o):Int)/\(ah<=aW/\aW<=(10000000:Int))/\∀ (A':Value->Atom) (z:List UInt8) (nx e:Int),RB A' fs R->pw fs R o bH z nx e->aJ (List.length z)->aB .i64 nx->aB .i64 e->br (e==0) (y1 (.cC [.c dD,.c (.k (.int .i64 2))]) [HO.abs A']) (y1 (SV.cC [S1.c (.o 1),.c (.k aT)]) [HO.abs A',.sl 3 bq y4]))
def zK (m n:Int) (A:Value->Atom):dq:=λQ=>bZ m n (br (cL m) (Q kD [HO.abs A]) ((n=dm\/n=cA)/\∃ fs R,RB A fs R/\∃ o,o<=List.length R/\ah=(↑(dS fs o):Int)/\(ah<=ah/\ah<=(10000000:Int))/\∀ (A':Value->Atom) (z: 
 List UInt8) (nx e:Int),RB A' fs R->pw fs R o bx z nx e->cW z (bZ nx e (aK (λi ag=>fA i.1.1 (br (decide ((aP i.1.1)< m)) (br (i.1.2.2.1==0) (∃ fs R,RB i.2.1 fs R/\∃ o,vG o R i.1.2.1 fs n (∀ (A': 
 Value->Atom) (z:List UInt8) (nx e:Int),RB A' fs R->pw fs R o (aS n) z nx e->cW z (bZ nx e (br (e==0) (fa (List.length z)/\bj (1<=n/\n<=4/\n<=(ay z)/\fa (List.length z)/\(aB .i64 (bJ (pI n z)) 
 ->(List.length i.1.1+List.length [bJ (pI n z)])*8<=cd/\List.length i.1.1+List.length [bJ (pI n z)]<=9223372036854775807/\ag ((i.1.1++ [bJ (pI n z)],nx,e,()),A',())))) (ag ((i.1.1,nx,e,()),A', 
 ())))))) (Y7 i.1.2.2.1 Q i.2.1 i.1.2.1 i.1.1)) (Y7 i.1.2.2.1 Q i.2.1 i.1.2.1 i.1.1))) (([],nx,e,()),A',())))))
theorem Bi:cq 104 QR:=eI<| rZ<| nF λm=>nF λn=>r5 λH Q h=>by
 split at h;rotate_left;cases h;rename_i A;refine Wp.kE [some (.sl (.int .i64)),none] [1] ?_;refine Wp.dy aca xO ⟨[(6,⟨[(11,.own 3 (.int .i64)),(9,.int .i64),(10,.int .i64)],[(0,.abs)]⟩)],[]⟩ Tryz.f104 (zK m n A) ?_;unfold zK bj pI vG cW bZ cL fA Y7 kD cd dD aT aS ah aW dm cA aP ay fa aJ bx bH bq;obtain ⟨fs,R,hR,hn,l,hx,rfl,rfl,hl,h⟩:=h;obtain ⟨h14,n1,n4⟩:=ags hn;have hBl:=ka n.toNat l;refine λ_ _=>ak (λhc=>absurd (of_decide_eq_true hc) (by omega)) (λ_=>⟨hn,fs,_,hR,0,cM _,ao6 fs,⟨by decide,by decide⟩,λA' z nx e hR hz _ _ _=>?_⟩);obtain ⟨rfl,rfl,rfl⟩:=hz.ok (cM _);refine aK.intro (λi=>∃ j,j<=l.length/\i.1.1=l.take j/\i.1.2.1=(dS fs (n.toNat*j):Nat)/\i.1.2.2.1=0/\RB i.2.1 fs (gy n.toNat l)) (λi=>l.length - i.1.1.length) ⟨0,cM _,rfl,by rw [Nat.mul_zero],rfl,hR⟩ ?_;rintro ⟨⟨o,at',e,_⟩,A',_⟩ ⟨j,hj,h1,h2,h3,hR⟩;simp only at hj h1 h2 h3 hR ⊢;subst h1 h2 h3;have hjl:(l.take j).length=j:=by rw [aF];omega
 have hnj:n.toNat*j<=n.toNat*l.length:=Nat.mul_le_mul_left _ hj;rw [hjl];refine λ_=>ak (λhc=>ak (λ_=>?_) (λq=>by cases q)) (λhc=>ak (λq=>by cases q) (λ_=>?_))
 .have hc:(j:Int)< l.length:=of_decide_eq_true hc;have NI:j< l.length:=by omega
  have hj1:n.toNat*j+n.toNat<=(gy n.toNat l).length:=by
   rw [hBl];have:=Nat.mul_le_mul_left n.toNat (show j+1<=l.length by omega);rw [Nat.mul_succ] at this;exact this
  refine ⟨fs,_,hR,_,by rw [hBl];exact hnj,rfl,⟨by omega,by omega⟩,λA' z nx e hR hz _ _ _=>?_⟩;obtain ⟨rfl,rfl,rfl⟩:=hz.ok hj1;have hb:=hx _ (dA NI);rw [PX n.toNat NI];have Qo:=aD n.toNat (l[j]).toNat
  rw [aL (Nat.le_of_eq Qo),ev hb.1 hb.2];have e2:l.take j++ [l[j]]=l.take (j+1):=(bY NI).symm;exact ak (λ_=>⟨by omega,by trivial,h14.1,h14.2,by omega,by omega,λ_=>⟨by simp only [aE];omega,by simp only [aE];omega,⟨j+1,NI,e2,by rw [Nat.mul_succ],by trivial,hR⟩,by rw [af,hjl,aE];omega⟩⟩) (λq=>by cases q)
 .have hc:¬(j:Int)< l.length:=of_decide_eq_false hc;obtain rfl:j=l.length:=by omega
  refine ⟨fs,_,hR,_,by rw [hBl];exact aG _,rfl,⟨by decide,by decide⟩,λA' z nx e hR hz _ _ _=>?_⟩;rcases hz.or with ⟨q,_⟩| ⟨_,rfl,rfl,rfl⟩;rw [hBl] at q;omega
  .rw [fz];exact ak (λq=>by cases q) (λ_=>⟨by show 1<=2;decide,h A' hR⟩)
end Go.Proofs

namespace Go.Lm
open Go
def wF (t:List UInt8):List UInt8:=az t.length::t
def gl (l:List (List UInt8)):List UInt8:=l.flatMap wF
def xaL (x:u9):List (List UInt8):=[x.1.data.toList,x.2.1]
def pA (l:List u9):List (List UInt8):=l.flatMap xaL
def xsB (l:List u9):List UInt8:=aH 1 l.length++gl (pA l)
structure aod (l:List u9) (z:List UInt8) (e:Int):Prop where
 or:(l= []/\z= []/\e=1)\/(l≠ []/\z=xsB l/\e=0)
theorem vh (l m:List (List UInt8)):gl (l++m)=gl l++gl m:=by unfold gl;exact List.flatMap_append
theorem zR (t:List UInt8) (l:List (List UInt8)):gl (t::l)=wF t++gl l:=rfl
theorem vg:∀ {l:List (List UInt8)},(∀ t∈l,t.length<=255)->(gl l).length<=256*l.length
 | [],_=>aG _
 | t::l,h=>by
  have h1:=h t aN;have h2:=vg (l:=l) λx hx=>h x (aI _ hx);rw [zR,af];unfold wF;simp only [av];omega
theorem Kr (l m:List u9):pA (l++m)=pA l++pA m:=by unfold pA;exact List.flatMap_append
theorem om:∀ l:List u9,(pA l).length=2*l.length
 | []=>rfl
 | x::l=>by
  have:=om l;show (xaL x++pA l).length=_;rw [af,this,av];show 2+_=_;omega
theorem abx {x:u9} {last:ByteArray} (h:wh x last=false):1<=x.1.size/\x.1.size<=40/\x.2.1.length<=200:=by
 unfold wh oG gN at h;simp only [Bool.or_eq_false_iff,Bool.not_eq_false',ao,decide_eq_true_eq,decide_eq_false_iff_not] at h;omega
theorem wo:∀ {l:List u9} {last:ByteArray},fG l last=true->∀ x∈l,1<=x.1.size/\x.1.size<=40/\x.2.1.length<=200
 | y::l,last,h,x,hx=>by
  unfold fG at h;split at h;cases h
  .rename_i hb;rcases bm.1 hx with rfl| hx
   .exact abx (by simpa using hb)
   .exact wo h x hx
theorem mF {l:List u9} (h:dC l=true):(∀ x∈l,1<=x.1.size/\x.1.size<=40/\x.2.1.length<=200)/\l.length<=8:=by
 unfold dC at h;simp only [ao,decide_eq_true_eq] at h;exact ⟨wo h.1,by omega⟩
theorem HT {l:List u9} (h:∀ x∈l,1<=x.1.size/\x.1.size<=40/\x.2.1.length<=200):∀ t∈pA l,t.length<=255:=λt ht=>by
 unfold pA at ht;obtain ⟨x,hx,hm⟩:=List.mem_flatMap.1 ht;have:=h x hx;unfold xaL at hm;simp only [bm,List.not_mem_nil,or_false] at hm;rcases hm with rfl| rfl;rw [<-j7];omega;omega
theorem af0 (l:List UInt8):(fY l).size=l.length:=by simp [fY,ByteArray.size]
theorem OB (l:List UInt8):(fY l).data.toList=l:=by simp [fY]
theorem OX (x:u9):gl (xaL x)=az x.1.size::x.1.data.toList++az x.2.1.length::x.2.1:=by
 show wF x.1.data.toList++(wF x.2.1++ [])=_;unfold wF;rw [bf,<-j7]
theorem EI:∀ {l:List u9} {k:Nat} (h:k< l.length),((pA l).drop (k*2)).take 2= [(l[k]).1.data.toList,(l[k]).2.1]
 | x::l,0,_=>rfl
 | x::l,k+1,h=>by
  have:=EI (l:=l) (k:=k) (by simpa using h);rw [show (k+1)*2=2+k*2 by omega,<-eN];exact this
end Go.Lm

namespace Go.Proofs
open Go Go.Lm Go.RowKit
set_option maxRecDepth 1000000
theorem aeL {a b:ByteArray} (h:Go.Lm.leB a b=false):1<=(a.size:Int):=by
 rw [Jw] at h;have h1:lS b a=true:=by simpa using h
 unfold lS at h1;rw [j7];rw [Lib.toList_data,Lib.toList_data] at h1;cases hq:a.data.toList with
 | nil=>rw [hq] at h1;cases hb:b.data.toList<;>rw [hb] at h1<;>cases h1
 | cons c l=>simp only [av];omega
theorem HF (x:u9) (last:ByteArray):wh x last=(Go.Lm.leB x.1 last|| (decide ((x.1.size:Int)>40)|| (decide (Lib.indexByte x.1.data.toList 0≥0)|| decide ((x.2.1.length:Int)>200)))):=by
 unfold wh oG gN S8;cases hl:Go.Lm.leB x.1 last with
 | true=>simp
 | false=>
  have:=aeL hl;rw [Bool.eq_iff_iff];simp only [kq,cY,Bool.and_eq_false_iff,decide_eq_false_iff_not,decide_eq_true_eq,dQ,or_false,false_or];omega
def akA:Ct:=cD cU λl=>c0 λQ=>Q (.bool (dC l)) []
def ab9:=aca.add Bi
abbrev cG (y0:List (cU).den) (y1):=aA cU y0 y1
abbrev jC (y0:List (cU).den) (R:Prop):=List.length y0<=9223372036854775807->R
abbrev yy (y0:List (cU).den) (y1:SV->List HO->Prop):=aJ (List.length y0)->y1 (.v (.c (.k (.bool (decide ((ay y0)<=iF)))))) []
abbrev pF (y0:List (cU).den) (y1) (R:Prop):=List.length (cG y0 y1).2.1<=9223372036854775807->R
abbrev yw (y0:List (cU).den) (y1):=decide ((↑(List.length (cG y0 y1).2.1):Int)>(200:Int))
abbrev sK (y0:List (cU).den) (y1):=ByteArray.size (cG y0 y1).1
abbrev jO (y0:List (cU).den):=List.length y0
def RV (l:(List (cU).den)):dq:=λQ=>jC l (aJ (jO l)->aK (λi ag=>br (decide (i.1.1< (ay l))) (0<=i.1.1/\i.1.1< (ay l)/\(Ty.ok cU (cG l i.1.1)->br (lS (cG l i.1.1).1 i.1.2.1|| j9 (cG l i.1.1).1 i.1.2.1) (ba Q) (br 
 (decide ((↑(sK l i.1.1):Int)>(40:Int))) (ba Q) (aB .i64 (Lib.indexByte (cG l i.1.1).1.data.toList (Nat.toUInt8 bx))->br (decide (Lib.indexByte (cG l i.1.1).1.data.toList (Nat.toUInt8 bx)≥0)) (ba Q) (pF 
 l i.1.1 (br (yw l i.1.1) (ba Q) (cj i.1.1 (ag ((i.1.1+1,(cG l i.1.1).1,()),()))))))))) (yy l Q)) ((ah,ByteArray.mk #[],()),()))
theorem aiu:cq 180 akA:=eI<| iH λl=>gx λQ h=>by
 refine Wp.dy ab9 xO ⟨[(4,⟨[(8,.int .i64),(3,.str)],[]⟩)],[]⟩ Tryz.f180 (RV l) ?_;unfold RV jO sK yw pF yy jC cG ba cj iW ah iF ay aJ bx;intro _ _;refine aK.intro (λi=>0<=i.1.1/\i.1.1<=l.length/\fG l ⟨#[]⟩=fG (l.drop i.1.1.toNat) i.1.2.1) (λi=>l.length - i.1.1.toNat) ⟨by simp,by simp,by simp⟩ ?_;rintro ⟨⟨i,last,_⟩,_⟩ ⟨h0,h1,h2⟩;simp only at h0 h1 h2 ⊢;refine ak (λhc=>?_) (λhc=>?_)
 .have hc:i< l.length:=by simpa using hc
  refine ⟨h0,hc,λ_=>?_⟩;rw [cR (e:=cU) h0 hc] at h2;have bad:wh (aA cU l i) last=true->Q (.bool false) []:=λhb=>by
   simp only [fG,hb,if_true] at h2;unfold dC at h;rw [h2,eO] at h;exact h
  rw [HF] at bad;refine ak (λh3=>bad (by unfold Go.Lm.leB;rw [h3];rfl)) (λh3=>ak (λh4=>bad (by rw [h4];simp)) (λh4=>λ_=>ak (λh5=>bad (by rw [show decide (Lib.indexByte (aA cU l i).1.data.toList 0≥0)=true from h5];simp)) (λh5=>λ_=>ak (λh6=>bad (by rw [h6];simp)) (λh6=>?_))));have hn:wh (aA cU l i) last=false:=by rw [HF];unfold Go.Lm.leB;rw [h3,h4,show decide (Lib.indexByte (aA cU l i).1.data.toList 0≥0)=false from h5,h6];rfl
  simp only [fG,hn,dQ,if_false] at h2;exact ⟨by unfold aB;omega,⟨by omega,by omega,h2⟩,by omega⟩
 .have hc:¬i< l.length:=by simpa using hc
  rw [cX hc] at h2;intro _;unfold dC at h;rw [h2] at h;exact h
def cu:List (Nat×Ty):=(96,cU)::xO
def akv:Ct:=cD cU λl=>c0 λQ=>dC l=true/\∀ z e,aod l z e->Q (.cC [.c (.d .u8 z),.c (.k (.int .i64 e))]) []
def ab8:=ab9.add aiu
def RO (l:(List (cU).den)):dq:=λQ=>jC l (aJ (jO l)->br ((ay l)==0) (Q kD []) (br (!dC l) (Q kD []) (aJ (jO l)->pH ((ah<=(ay l)/\(ay l)< fb ^ bH)/\bx<=ku/\(aJ (jO l)->aK (λi ag=>br 
 (decide (i.1.1< (ay l))) (0<=i.1.1/\i.1.1< (ay l)/\(Ty.ok cU (cG l i.1.1)->i.2.1.1=ah/\ByteArray.size (cG l i.1.1).1<=255/\List.length i.2.1.2.1<=1000000000/\bj (ByteArray.size (fY (cG l i.1.1).2.1)<= 
 255/\List.length (i.2.1.2.1++az (sK l i.1.1)::(cG l i.1.1).1.data.toList)<=1000000000/\cj i.1.1 (ag ((i.1.1+1,()),(ah,i.2.1.2.1++az (sK l i.1.1)::(cG l i.1.1).1.data.toList++ 
 az (ByteArray.size (fY (cG l i.1.1).2.1))::(fY (cG l i.1.1).2.1).data.toList,()),()))))) (yO i.2.1.1 i.2.1.2.1 Q)) ((ah,()),(ah,[]++aH bH (ax (ay l)),()),()))))))
theorem Xz:cq 133 akv:=eI<| iH λl=>gx λQ h=>by
 refine Wp.kE [some (.sl .u8),none] [] ?_;refine Wp.dy ab8 cu ⟨[(7,⟨[(20,.int .i64)],[(0,.cells 174 [.int .i64,.own 5 .u8])]⟩)],[]⟩ Tryz.f133 (RO l) ?_;unfold RO jO sK ku bj pH jC cG yO cj kD bw dD aT ah aW fb cA ay aJ bx bH;obtain ⟨hx,h⟩:=h;obtain ⟨hm,hl⟩:=mF hx;have hle:=HT hm;refine λ_ _=>ak (λhc=>?_) (λhc=>?_)
 .have hc:(l.length:Int)=0:=eq_of_beq hc;exact ⟨aG _,h [] 1 ⟨.inl ⟨bB (by omega),rfl,rfl⟩⟩⟩
 rw [hx];have ja:l≠ []:=λe=>by subst e;cases hc
 refine ak (λq=>by cases q) (λ_=>λ_=>⟨by trivial,⟨by decide,by decide⟩,⟨by omega,by show _< (256:Int);omega⟩,by decide,λ_=>?_⟩);refine aK.intro (λi=>(0<=i.1.1/\i.1.1<=l.length)/\i.2.1.1=0/\i.2.1.2.1=aH 1 l.length++gl (pA (l.take i.1.1.toNat))) (λi=>(l.length - i.1.1).toNat) ⟨⟨bh _,by show (0:Int)<=_;omega⟩,rfl,by rw [gS,bL];exact (bf _).symm⟩ ?_;rintro ⟨⟨j,_⟩,⟨c,x,_⟩,_⟩ ⟨⟨j0,j1⟩,h1,h2⟩;simp only at j0 j1 h1 h2 ⊢;subst h1;have hxl:x.length<=5000:=by
  have a1:=vg (l:=pA (l.take j.toNat)) λt ht=>hle t (by
   have e:pA l=pA (l.take j.toNat)++pA (l.drop j.toNat):=by rw [<-Kr,bK]
   rw [e];exact bW _ ht)
  rw [om,aF] at a1;rw [h2,af,aD];omega
 refine ak (λhc=>?_) (λhc=>?_)
 .have hc:j< (l.length:Int):=of_decide_eq_true hc;obtain ⟨m1,m2,m3⟩:=hm _ (tv (e:=cU) j0 hc);have ht:=ixT (e:=cU) j0 hc;obtain ⟨y,hy⟩:∃ y,aA cU l j=y:=⟨_,rfl⟩;rw [hy] at m1 m2 m3 ht ⊢;rw [af0,OB];have e2:x++az y.1.size::y.1.data.toList++az y.2.1.length::y.2.1=aH 1 l.length++gl (pA (l.take (j+1).toNat)):=by
   rw [ht,Kr,vh,show pA [y]=xaL y++ [] from rfl,bf,OX,h2];simp only [aM]
  exact ⟨j0,hc,λ_=>⟨by trivial,by omega,by omega,by trivial,by omega,by simp only [af,av,<-j7];omega,by unfold aB;omega,⟨⟨by omega,by omega⟩,by trivial,e2⟩,by omega⟩⟩
 .have hc:¬j< (l.length:Int):=of_decide_eq_false hc;rw [aL (by omega)] at h2;exact ⟨by trivial,by omega,λ_ _=>⟨aG _,h _ _ ⟨.inr ⟨ja,h2,rfl⟩⟩⟩⟩
def afx:Ct:=cP<| cI λr=>cI λm=>cO λH Q=>match H with
 | [.abs A]=>∃ fs R,RB A fs R/\∃ o:Nat,o<=R.length/\r=(dS fs o:Int)/\∃ (ts:List (List UInt8)) (q:List UInt8),R.drop o=gl ts++q/\(∀ t∈ts,t.length<=255)/\m=ts.length/\ts.length<=100/\∀ A',RB A' fs R->Q (.cC [.c (.d (.sl .u8) ts),.c (.k (.int .i64 0))]) [.abs A']
 | _=>False
def ab7:=ab8.add Xz
def K5 (r m:Int) (A:Value->Atom):dq:=λQ=>bZ r m (aK (λi ag=>br (decide (i.1.2.2.1< m)) (∃ fs R,RB i.2.1 fs R/\∃ o,o<=List.length R/\i.1.2.1=(↑(dS fs o):Int)/\(ah<=aW/\aW<=(10000000:Int))/\∀ (A':Value->Atom) (z:List 
 UInt8) (nx e:Int),RB A' fs R->pw fs R o bH z nx e->cW z (bZ nx e (br (e !=0) (Q (.cC [.c dD,.c (.k (aC e))]) [HO.abs A']) (ah<=ah/\ah< (ay z)/\(kQ z (∃ fs R,RB A' fs R/\∃ o,o<=List.length R 
 /\nx=(↑(dS fs o):Int)/\(ah<=(fQ z)/\(fQ z)<=(10000000:Int))/\∀ (A':Value->Atom) (z_1:List UInt8) (nx e:Int),RB A' fs R->pw fs R o (ax (fQ z)) z_1 nx e->cW z_1 (bZ nx e (br (e !=0) (Q 
 (.cC [.c dD,.c (.k (aC e))]) [HO.abs A']) ((List.length i.1.1+List.length [z_1])*24<=cd/\List.length i.1.1+List.length [z_1]<=9223372036854775807/\cj i.1.2.2.1 (ag ((i.1.1++ [z_1],nx,i.1.2.2.1+1,()),A', 
 ()))))))))))) (Q (SV.cC [S1.c (.o 1),.c (.k aT)]) [HO.abs i.2.1,.sl 35 bC i.1.1])) (([],r,ah,()),A,()))
theorem adp:cq 197 afx:=eI<| rZ<| nF λr=>nF λm=>r5 λH Q h=>by
 split at h;rotate_left;cases h;rename_i A;refine Wp.kE [some (.sl (.sl .u8)),none] [1] ?_;refine Wp.dy ab7 cu ⟨[(4,⟨[(8,.own 35 (.sl .u8)),(1,.int .i64),(15,.int .i64)],[(0,.abs)]⟩)],[]⟩ Tryz.f197 (K5 r m A) ?_;unfold K5 kQ cW bZ cj cd dD aT fQ aC ah aW ay aJ bH bC;obtain ⟨fs,R,hR,o,ho,rfl,ts,q,hd,hle,rfl,hl,h⟩:=h;have Wb:∀ j:Nat,R.drop (o+(gl (ts.take j)).length)=gl (ts.drop j)++q:=λj=>by
  rw [<-eN,hd]
  conv=>lhs;rw [<-bK j ts,vh,aM]
  rw [bK];exact lR
 refine λ_ _=>aK.intro (λi=>∃ j,j<=ts.length/\i.1.1=ts.take j/\i.1.2.1=(dS fs (o+(gl (ts.take j)).length):Nat)/\i.1.2.2.1=(j:Int)/\RB i.2.1 fs R) (λi=>ts.length - i.1.1.length) ⟨0,cM _,rfl,rfl,rfl,hR⟩ ?_;rintro ⟨⟨x,r',k,_⟩,A',_⟩ ⟨j,hj,h1,h2,h3,hR⟩;simp only at hj h1 h2 h3 hR ⊢;subst h1 h2 h3;have hjl:(ts.take j).length=j:=by rw [aF];omega
 refine ak (λhc=>?_) (λhc=>?_)
 .have hc:(j:Int)< ts.length:=of_decide_eq_true hc;have NI:j< ts.length:=by omega
  have hp:=Wb j;obtain ⟨p,AJ⟩:∃ p,o+(gl (ts.take j)).length=p:=⟨_,rfl⟩;obtain ⟨t,hte⟩:∃ t,ts[j]=t:=⟨_,rfl⟩;have htl:=hle t (by rw [<-hte];exact dA NI);have ht:ts.take j++ [t]=ts.take (j+1):=by rw [bY NI,hte]
  have apm:(gl (ts.take (j+1))).length=(gl (ts.take j)).length+1+t.length:=by
   rw [<-ht,vh,af];show _+(wF t++ []).length=_;rw [bf];unfold wF;rw [av];omega
  rw [bM NI,hte,zR,AJ] at hp;rw [AJ];unfold wF at hp;simp only [eH,aM] at hp;have JF:=congrArg List.length hp;rw [aR,av,af] at JF;have hp1:R.drop (p+1)=t++(gl (ts.drop (j+1))++q):=by
   rw [<-eN,hp];rfl
  refine ⟨fs,R,hR,p,by omega,rfl,⟨by decide,by decide⟩,λA' z nx e hR hz _ _ _=>?_⟩;obtain ⟨rfl,rfl,rfl⟩:=hz.ok (by omega);rw [hp];refine ak (λq=>by cases q) (λ_=>⟨by decide,by show (0:Int)< 1;decide,λ_=>?_⟩);show ∃ fs R,_;have hu:(aA .u8 (List.take 1 (az t.length::(t++(gl (ts.drop (j+1))++q)))) 0).toNat=t.length:=YB htl;rw [hu];refine ⟨fs,R,hR,p+1,by omega,rfl,⟨by omega,by omega⟩,λA' z nx e hR hz _ _ _=>?_⟩;rw [bL] at hz;obtain ⟨rfl,rfl,rfl⟩:=hz.ok (by omega);rw [hp1,List.take_left,hjl,ht];exact ak (λq=>by cases q) (λ_=>⟨by simp only [aE];omega,by simp only [aE];omega,by unfold aB;omega,⟨j+1,NI,rfl,by rw [apm,show o+((gl (ts.take j)).length+1+t.length)=p+1+t.length by omega],by omega,hR⟩,by rw [aF];omega⟩)
 .have hc:¬(j:Int)< ts.length:=of_decide_eq_false hc;rw [aL (by omega)];exact ⟨by show 1<=2;decide,h A' hR⟩
end Go.Proofs

