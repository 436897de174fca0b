/- Texts of mine, laid together: I10 I11 I12 I13 LmKN LmZj I14 LmVzb KeyI LmZk LmZl I15 LmZm I16. -/
import Derived.Test.YthjbdgokcljocaaGreatDoorQ3
import Derived.Test.YthjbdgokcljocaaGreatDoorProg
import Derived.Test.YthjbdgokcljocaaGreatDoorChecked
import Derived.Test.YthjbdgokcljocaaGreatDoorQ1
import Derived.Lib.SplitLaws
import Derived.Lib.Split
import Derived.Lib.Join
import Derived.Laws.Concat
import Derived.Sort.KeysCollected
import Derived.Shelf.SlIterI.Sorted
import Derived.Lib.SlKeysI
set_option linter.unusedVariables false
open Bool renaming and_eq_true → ak, not_eq_true' → dr, false_eq_true → dS, false_and → fg, or_eq_true → lR
open Int renaming toNat → ax, le_refl → bB, toNat_natCast → bM
open List renaming length_append → af, length_cons → av, length_singleton → ay, mem_cons_of_mem → aF, length_take → aH, mem_cons_self → aK, append_assoc → aL, length_nil → aO, length_drop → aQ, take_of_length_le → aT, mem_append → aX, append_nil → bd, mem_map → bq, mem_cons → bz, eq_nil_of_length_eq_zero → bA, take_succ_eq_append_getElem → bG, getElem?_append_left → bN, drop_eq_getElem_cons → bO, length_map → bR, take_append_drop → bX, mem_append_left → cj, map_cons → cE, getElem_mem → dA, flatten_cons → dD, cons_append → dV, getD_eq_getElem?_getD → ep, take_length → eK, drop_eq_nil_of_le → eL, drop_drop → eP, nodup_cons → gj, mem_filter → gk, nil_append → hU, flatMap_append → ia, map_congr_left → jv, flatMap_cons → jA, drop_left → lH, drop_zero → pc
open Nat renaming le_refl → aG, zero_le → cY, lt_or_ge → eW, add_mul → gZ, min_eq_left → pB
open Go.Proofs.Tryz renaming prog → bQ
open UInt8 renaming ofNat → az, toNat → cK
noncomputable section
namespace Go.Proofs
open Go Go.Lm Go.RowKit
set_option maxRecDepth 1000000
def afy:List bP.den:=[(182,2,511,()),(183,2,2047,()),(184,2,2047,()),(185,2,1024,()),(186,4,4294967295,())]
def oU (k:Int):List bP.den:=if k=2 then [(187,4,4294967295,()),(188,2,4096,()),(189,2,1024,()),(190,1,127,())] else if k=1 then [(187,4,4294967295,()),(188,4,1048576,())] else []
def ic:List (Nat×Ty):=(227,bP)::(80,eC)::jx
def an9:Ct:=cP<| cO λH Q=>match H with
 | [.cells 80 [.k (.int .i64 k0),.k (.int .i64 mo),.k (.int .i64 ui),.k (.int .i64 gi),.k (.int .i64 lk),.k (.int .i64 xa),.k (.int .i64 st),.k (.int .i64 sz),.k (.int .i64 fr),.k (.int .i64 off),.k (.string tg)]]=>Q (.c (.p 0 1)) [.cells 80 [.k (.int .i64 k0),.k (.int .i64 mo),.k (.int .i64 ui),.k (.int .i64 gi),.k (.int .i64 lk),.k (.int .i64 xa),.k (.int .i64 st),.k (.int .i64 sz),.k (.int .i64 fr),.k (.int .i64 off),.k (.string tg)]]
 | _=>False
def acN:=ahw.add zK
def YA (k0 mo ui gi lk xa st sz fr off:Int) (tg:ByteArray):dx:=λQ=>Q (SV.v (S1.c (.p 0 1))) [.cells 80 [.k (aC k0),.k (aC mo),.k (aC ui),.k (aC gi),.k (aC lk),.k (aC xa),.k (aC st),.k (aC sz),.k (aC fr),.k (aC off),.k (.string tg)]]
theorem amw:cu 182 an9:=eQ<| r5<| r6 λH Q h=>by
 split at h;rotate_left;cases h;rename_i k0 mo ui gi lk xa st sz fr off tg;refine Wp.dC acN ic ⟨[],[]⟩ Tryz.f182 (YA k0 mo ui gi lk xa st sz fr off tg) ?_;unfold YA aC;exact h
def an8:Ct:=cP<| cO λH Q=>match H with
 | [.cells 80 [.k (.int .i64 k0),.k (.int .i64 mo),.k (.int .i64 ui),.k (.int .i64 gi),.k (.int .i64 lk),.k (.int .i64 xa),.k (.int .i64 st),.k (.int .i64 sz),.k (.int .i64 fr),.k (.int .i64 off),.k (.string tg)]]=>Q (.c (.p 0 2)) [.cells 80 [.k (.int .i64 k0),.k (.int .i64 mo),.k (.int .i64 ui),.k (.int .i64 gi),.k (.int .i64 lk),.k (.int .i64 xa),.k (.int .i64 st),.k (.int .i64 sz),.k (.int .i64 fr),.k (.int .i64 off),.k (.string tg)]]
 | _=>False
def acM:=acN.add amw
def Yz (k0 mo ui gi lk xa st sz fr off:Int) (tg:ByteArray):dx:=λQ=>Q (SV.v (S1.c (.p 0 2))) [.cells 80 [.k (aC k0),.k (aC mo),.k (aC ui),.k (aC gi),.k (aC lk),.k (aC xa),.k (aC st),.k (aC sz),.k (aC fr),.k (aC off),.k (.string tg)]]
theorem amv:cu 183 an8:=eQ<| r5<| r6 λH Q h=>by
 split at h;rotate_left;cases h;rename_i k0 mo ui gi lk xa st sz fr off tg;refine Wp.dC acM ic ⟨[],[]⟩ Tryz.f183 (Yz k0 mo ui gi lk xa st sz fr off tg) ?_;unfold Yz aC;exact h
def an7:Ct:=cP<| cO λH Q=>match H with
 | [.cells 80 [.k (.int .i64 k0),.k (.int .i64 mo),.k (.int .i64 ui),.k (.int .i64 gi),.k (.int .i64 lk),.k (.int .i64 xa),.k (.int .i64 st),.k (.int .i64 sz),.k (.int .i64 fr),.k (.int .i64 off),.k (.string tg)]]=>Q (.c (.p 0 3)) [.cells 80 [.k (.int .i64 k0),.k (.int .i64 mo),.k (.int .i64 ui),.k (.int .i64 gi),.k (.int .i64 lk),.k (.int .i64 xa),.k (.int .i64 st),.k (.int .i64 sz),.k (.int .i64 fr),.k (.int .i64 off),.k (.string tg)]]
 | _=>False
def acL:=acM.add amv
def Yy (k0 mo ui gi lk xa st sz fr off:Int) (tg:ByteArray):dx:=λQ=>Q (SV.v (S1.c (.p 0 3))) [.cells 80 [.k (aC k0),.k (aC mo),.k (aC ui),.k (aC gi),.k (aC lk),.k (aC xa),.k (aC st),.k (aC sz),.k (aC fr),.k (aC off),.k (.string tg)]]
theorem amu:cu 184 an7:=eQ<| r5<| r6 λH Q h=>by
 split at h;rotate_left;cases h;rename_i k0 mo ui gi lk xa st sz fr off tg;refine Wp.dC acL ic ⟨[],[]⟩ Tryz.f184 (Yy k0 mo ui gi lk xa st sz fr off tg) ?_;unfold Yy aC;exact h
def an6:Ct:=cP<| cO λH Q=>match H with
 | [.cells 80 [.k (.int .i64 k0),.k (.int .i64 mo),.k (.int .i64 ui),.k (.int .i64 gi),.k (.int .i64 lk),.k (.int .i64 xa),.k (.int .i64 st),.k (.int .i64 sz),.k (.int .i64 fr),.k (.int .i64 off),.k (.string tg)]]=>Q (.c (.p 0 4)) [.cells 80 [.k (.int .i64 k0),.k (.int .i64 mo),.k (.int .i64 ui),.k (.int .i64 gi),.k (.int .i64 lk),.k (.int .i64 xa),.k (.int .i64 st),.k (.int .i64 sz),.k (.int .i64 fr),.k (.int .i64 off),.k (.string tg)]]
 | _=>False
def acK:=acL.add amu
def Yx (k0 mo ui gi lk xa st sz fr off:Int) (tg:ByteArray):dx:=λQ=>Q (SV.v (S1.c (.p 0 4))) [.cells 80 [.k (aC k0),.k (aC mo),.k (aC ui),.k (aC gi),.k (aC lk),.k (aC xa),.k (aC st),.k (aC sz),.k (aC fr),.k (aC off),.k (.string tg)]]
theorem amt:cu 185 an6:=eQ<| r5<| r6 λH Q h=>by
 split at h;rotate_left;cases h;rename_i k0 mo ui gi lk xa st sz fr off tg;refine Wp.dC acK ic ⟨[],[]⟩ Tryz.f185 (Yx k0 mo ui gi lk xa st sz fr off tg) ?_;unfold Yx aC;exact h
def an5:Ct:=cP<| cO λH Q=>match H with
 | [.cells 80 [.k (.int .i64 k0),.k (.int .i64 mo),.k (.int .i64 ui),.k (.int .i64 gi),.k (.int .i64 lk),.k (.int .i64 xa),.k (.int .i64 st),.k (.int .i64 sz),.k (.int .i64 fr),.k (.int .i64 off),.k (.string tg)]]=>Q (.c (.p 0 5)) [.cells 80 [.k (.int .i64 k0),.k (.int .i64 mo),.k (.int .i64 ui),.k (.int .i64 gi),.k (.int .i64 lk),.k (.int .i64 xa),.k (.int .i64 st),.k (.int .i64 sz),.k (.int .i64 fr),.k (.int .i64 off),.k (.string tg)]]
 | _=>False
def acJ:=acK.add amt
def Yw (k0 mo ui gi lk xa st sz fr off:Int) (tg:ByteArray):dx:=λQ=>Q (SV.v (S1.c (.p 0 5))) [.cells 80 [.k (aC k0),.k (aC mo),.k (aC ui),.k (aC gi),.k (aC lk),.k (aC xa),.k (aC st),.k (aC sz),.k (aC fr),.k (aC off),.k (.string tg)]]
theorem ams:cu 186 an5:=eQ<| r5<| r6 λH Q h=>by
 split at h;rotate_left;cases h;rename_i k0 mo ui gi lk xa st sz fr off tg;refine Wp.dC acJ ic ⟨[],[]⟩ Tryz.f186 (Yw k0 mo ui gi lk xa st sz fr off tg) ?_;unfold Yw aC;exact h
def an4:Ct:=cP<| cO λH Q=>match H with
 | [.cells 80 [.k (.int .i64 k0),.k (.int .i64 mo),.k (.int .i64 ui),.k (.int .i64 gi),.k (.int .i64 lk),.k (.int .i64 xa),.k (.int .i64 st),.k (.int .i64 sz),.k (.int .i64 fr),.k (.int .i64 off),.k (.string tg)]]=>Q (.c (.p 0 6)) [.cells 80 [.k (.int .i64 k0),.k (.int .i64 mo),.k (.int .i64 ui),.k (.int .i64 gi),.k (.int .i64 lk),.k (.int .i64 xa),.k (.int .i64 st),.k (.int .i64 sz),.k (.int .i64 fr),.k (.int .i64 off),.k (.string tg)]]
 | _=>False
def acI:=acJ.add ams
def Yv (k0 mo ui gi lk xa st sz fr off:Int) (tg:ByteArray):dx:=λQ=>Q (SV.v (S1.c (.p 0 6))) [.cells 80 [.k (aC k0),.k (aC mo),.k (aC ui),.k (aC gi),.k (aC lk),.k (aC xa),.k (aC st),.k (aC sz),.k (aC fr),.k (aC off),.k (.string tg)]]
theorem amr:cu 187 an4:=eQ<| r5<| r6 λH Q h=>by
 split at h;rotate_left;cases h;rename_i k0 mo ui gi lk xa st sz fr off tg;refine Wp.dC acI ic ⟨[],[]⟩ Tryz.f187 (Yv k0 mo ui gi lk xa st sz fr off tg) ?_;unfold Yv aC;exact h
def an3:Ct:=cP<| cO λH Q=>match H with
 | [.cells 80 [.k (.int .i64 k0),.k (.int .i64 mo),.k (.int .i64 ui),.k (.int .i64 gi),.k (.int .i64 lk),.k (.int .i64 xa),.k (.int .i64 st),.k (.int .i64 sz),.k (.int .i64 fr),.k (.int .i64 off),.k (.string tg)]]=>Q (.c (.p 0 7)) [.cells 80 [.k (.int .i64 k0),.k (.int .i64 mo),.k (.int .i64 ui),.k (.int .i64 gi),.k (.int .i64 lk),.k (.int .i64 xa),.k (.int .i64 st),.k (.int .i64 sz),.k (.int .i64 fr),.k (.int .i64 off),.k (.string tg)]]
 | _=>False
def acH:=acI.add amr
def Yu (k0 mo ui gi lk xa st sz fr off:Int) (tg:ByteArray):dx:=λQ=>Q (SV.v (S1.c (.p 0 7))) [.cells 80 [.k (aC k0),.k (aC mo),.k (aC ui),.k (aC gi),.k (aC lk),.k (aC xa),.k (aC st),.k (aC sz),.k (aC fr),.k (aC off),.k (.string tg)]]
theorem amq:cu 188 an3:=eQ<| r5<| r6 λH Q h=>by
 split at h;rotate_left;cases h;rename_i k0 mo ui gi lk xa st sz fr off tg;refine Wp.dC acH ic ⟨[],[]⟩ Tryz.f188 (Yu k0 mo ui gi lk xa st sz fr off tg) ?_;unfold Yu aC;exact h
def an2:Ct:=cP<| cO λH Q=>match H with
 | [.cells 80 [.k (.int .i64 k0),.k (.int .i64 mo),.k (.int .i64 ui),.k (.int .i64 gi),.k (.int .i64 lk),.k (.int .i64 xa),.k (.int .i64 st),.k (.int .i64 sz),.k (.int .i64 fr),.k (.int .i64 off),.k (.string tg)]]=>Q (.c (.p 0 8)) [.cells 80 [.k (.int .i64 k0),.k (.int .i64 mo),.k (.int .i64 ui),.k (.int .i64 gi),.k (.int .i64 lk),.k (.int .i64 xa),.k (.int .i64 st),.k (.int .i64 sz),.k (.int .i64 fr),.k (.int .i64 off),.k (.string tg)]]
 | _=>False
def acG:=acH.add amq
def Yt (k0 mo ui gi lk xa st sz fr off:Int) (tg:ByteArray):dx:=λQ=>Q (SV.v (S1.c (.p 0 8))) [.cells 80 [.k (aC k0),.k (aC mo),.k (aC ui),.k (aC gi),.k (aC lk),.k (aC xa),.k (aC st),.k (aC sz),.k (aC fr),.k (aC off),.k (.string tg)]]
theorem amp:cu 189 an2:=eQ<| r5<| r6 λH Q h=>by
 split at h;rotate_left;cases h;rename_i k0 mo ui gi lk xa st sz fr off tg;refine Wp.dC acG ic ⟨[],[]⟩ Tryz.f189 (Yt k0 mo ui gi lk xa st sz fr off tg) ?_;unfold Yt aC;exact h
def an1:Ct:=cP<| cO λH Q=>match H with
 | [.cells 80 [.k (.int .i64 k0),.k (.int .i64 mo),.k (.int .i64 ui),.k (.int .i64 gi),.k (.int .i64 lk),.k (.int .i64 xa),.k (.int .i64 st),.k (.int .i64 sz),.k (.int .i64 fr),.k (.int .i64 off),.k (.string tg)]]=>Q (.c (.p 0 9)) [.cells 80 [.k (.int .i64 k0),.k (.int .i64 mo),.k (.int .i64 ui),.k (.int .i64 gi),.k (.int .i64 lk),.k (.int .i64 xa),.k (.int .i64 st),.k (.int .i64 sz),.k (.int .i64 fr),.k (.int .i64 off),.k (.string tg)]]
 | _=>False
def acF:=acG.add amp
def Ys (k0 mo ui gi lk xa st sz fr off:Int) (tg:ByteArray):dx:=λQ=>Q (SV.v (S1.c (.p 0 9))) [.cells 80 [.k (aC k0),.k (aC mo),.k (aC ui),.k (aC gi),.k (aC lk),.k (aC xa),.k (aC st),.k (aC sz),.k (aC fr),.k (aC off),.k (.string tg)]]
theorem amo:cu 190 an1:=eQ<| r5<| r6 λH Q h=>by
 split at h;rotate_left;cases h;rename_i k0 mo ui gi lk xa st sz fr off tg;refine Wp.dC acF ic ⟨[],[]⟩ Tryz.f190 (Ys k0 mo ui gi lk xa st sz fr off tg) ?_;unfold Ys aC;exact h
def abu:Ct:=c0 λQ=>Q (.c (.o 0)) [.sl 227 bP afy]
def acE:=acF.add amo
def FP:dx:=
 λQ=>Q fh [.sl 227 bP [((182:Nat),dw,(511:Int),()),((183:Nat),dw,(2047:Int),()),((184:Nat),dw,(2047:Int),()),((185:Nat),dw,(1024:Int),()),((186:Nat),cL,(4294967295:Int),())]]
theorem Yd:cu 135 abu:=eQ<| gM λQ h=>by
 refine Wp.dC acE ic ⟨[],[]⟩ Tryz.f135 FP ?_;unfold FP fh dw cL;exact h
def abj:Ct:=cI λk=>c0 λQ=>Q (.c (.o 0)) [.sl 227 bP (oU k)]
def acD:=acE.add Yd
def FI (k:Int):dx:=λQ=>aD .i64 k->br (k==2) (Q fh [.sl 227 bP [((187:Nat),cL,(4294967295:Int),()),((188:Nat),dw,(4096:Int),()),((189:Nat),dw,(1024:Int),()),((190:Nat),aV,(127:Int),())]]) (br (k== 
 1) (Q fh [.sl 227 bP [((187:Nat),cL,(4294967295:Int),()),((188:Nat),cL,(1048576:Int),())]]) (Q fE []))
theorem wj:cu 136 abj:=eQ<| nG λk=>gM λQ h=>by
 refine Wp.yR (t:=227) (e:=bP) ?_;refine Wp.dC acD ic ⟨[],[]⟩ Tryz.f136 (FI k) ?_;unfold FI fh fE bZ aV dw cL;unfold oU at h;refine λ_=>aq (λhc=>.inl ?_) (λhc=>aq (λhd=>.inl ?_) (λhd=>.inr ⟨rfl,?_⟩))
 .grind
 .grind
 grind
def N8:Ct
 | [.v (.c (.k (.string s))),.v (.c (.k (.int .u8 c)))],[],Q=>Q (.int (Lib.indexByte s.data.toList c.toNat.toUInt8)) []
 | _,_,_=>False
theorem Ks:cu 181 N8:=by
 intro args H Q h;unfold N8 at h;split at h
 .rename_i s c;refine Wp.S6 (λE g w vs m hv=>?_) h;obtain ⟨u,v,rfl,⟨rfl,hs⟩,⟨rfl,_⟩⟩:=nR hv;refine (HH.of (Tryz.strings_IndexByte s c w)).mono λx w' ⟨h1,h2⟩=>⟨?_,by grind [Le.refl]⟩;rw [h1];refine dL ?_;have:=Jy s.data.toList c.toNat.toUInt8;have hs':s.data.toList.length<=9223372036854775807:=by assumption
  grind [aD]
 grind
def Oq:Ct
 | [.v (.agg [.k (.int .i64 1),.k (.int .i64 mo),.k (.int .i64 ui),.k (.int .i64 gi),.k (.int .i64 lk),.k (.int .i64 xa),.k (.int .i64 st),.k (.int .i64 sz),.k (.int .i64 fr),.k (.int .i64 off),.k (.string tg)])],[],Q=>Ec mo ui gi lk xa/\UL st sz/\lk=1/\fr=0/\off=0/\tg=⟨#[]⟩/\Q (.bool true) []
 | _,_,_=>False
def acC:=(acD.add wj).add Ks
abbrev uI:=afy++oU aV
abbrev du (y0:ByteArray) (R:Prop):=aJ (ByteArray.size y0)->R
abbrev nk:=aB bP uI ah
abbrev nj:=aB bP uI dK
abbrev ni:=aB bP uI dR
abbrev nh:=aB bP uI eu
abbrev ng:=aB bP uI eV
abbrev nf:=aB bP uI fV
abbrev nc:=aB bP uI kU
def FH (mo ui gi lk xa st sz fr off:Int) (tg:ByteArray):dx:=λQ=>aD .i64 1->cz mo ui gi (cz lk xa st (cz sz fr off (du tg ((168:Nat)<=ck/\jW<=eU/\(jW<=eU->l5 (l5 (Ty.ok bP nk->br (cV mo) (bc Q) (br 
 (decide (mo>nk.2.2.1)) (bc Q) (aD .i64 dK/\l7 (l7 (Ty.ok bP nj->br (cV ui) (bc Q) (br (decide (ui>nj.2.2.1)) (bc Q) (aD .i64 dR/\pW (pW (Ty.ok bP ni->br (cV gi) (bc Q) 
 (br (decide (gi>ni.2.2.1)) (bc Q) (aD .i64 eu/\pY (pY (Ty.ok bP nh->br (cV lk) (bc Q) (br (decide (lk>nh.2.2.1)) (bc Q) (aD .i64 eV/\fU (lV (fU (lV (Ty.ok bP ng->br 
 (cV xa) (bc Q) (br (decide (xa>ng.2.2.1)) (bc Q) (aD .i64 fV/\qb (qb (Ty.ok bP nf->br (cV st) (bc Q) (br (decide (st>nf.2.2.1)) (bc Q) (aD .i64 kU/\qc (qc (Ty.ok bP nc-> 
 br (cV sz) (bc Q) (br (decide (sz>nc.2.2.1)) (bc Q) (pI (br (!(aV==1&& (mo==mo&& (ui==ui&& (gi==gi&& (lk==lk&& (xa==xa&& (st==st&& (sz==sz&& (ah==fr&& (ah==off&& (kT (ByteArray.mk 
 #[]) tg&& true)))))))))))) (bc Q) (br (decide (lk< 1)) (bc Q) (Q (.v (.c (.k (.bool (lk==1))))) []))))))))))))))))))))))))))))))))))))))
theorem KL:cu 134 Oq:=by
 intro args H Q h;unfold Oq at h;split at h;rotate_left;cases h;rename_i mo ui gi lk xa st sz fr off tg;refine Wp.dC acC ic ⟨[],[]⟩ Tryz.f134 (FH mo ui gi lk xa st sz fr off tg) (unr:=[(5,11)]) ?_;unfold FH lV pI nc nf ng nh ni nj nk l5 du cV l7 bc pW dK pY fU qb eU qc dR kU eu fV ck eV uI cz iX ah aV aJ jW;obtain ⟨fq,hk,rfl,rfl,rfl,rfl,h⟩:=h;refine λ_ _ _ _ _ _ _ _ _ _ _=>⟨by decide,by decide,λ_=>?_⟩;refine ⟨by decide,by decide,by decide,by decide,λ_=>kg fq.q1.1 fq.q1.2 ⟨by unfold aD;decide,?_⟩⟩;refine ⟨by decide,by decide,by decide,by decide,λ_=>kg fq.q2.1 fq.q2.2 ⟨by unfold aD;decide,?_⟩⟩;refine ⟨by decide,by decide,by decide,by decide,λ_=>kg fq.q3.1 fq.q3.2 ⟨by unfold aD;decide,?_⟩⟩;refine ⟨by decide,by decide,by decide,by decide,λ_=>kg (by omega) (⟨by decide,by decide⟩:0<=(1:Int)/\(1:Int)<=1024).2 ⟨by unfold aD;decide,?_⟩⟩;refine ⟨by decide,by decide,by decide,by decide,λ_=>kg fq.q5.1 fq.q5.2 ⟨by unfold aD;decide,?_⟩⟩;refine ⟨by decide,by decide,by decide,by decide,λ_=>kg hk.r1.1 hk.r1.2 ⟨by unfold aD;decide,?_⟩⟩;refine ⟨by decide,by decide,by decide,by decide,λ_=>kg hk.r2.1 hk.r2.2 ⟨by unfold aD;decide,?_⟩⟩;rw [Qx]
 assumption
def Oo:Ct
 | [.v (.agg [.k (.int .i64 2),.k (.int .i64 mo),.k (.int .i64 ui),.k (.int .i64 gi),.k (.int .i64 lk),.k (.int .i64 xa),.k (.int .i64 st),.k (.int .i64 sz),.k (.int .i64 fr),.k (.int .i64 off),.k (.string tg)])],[],Q=>Ec mo ui gi lk xa/\zI st sz fr off/\tg=⟨#[]⟩/\Q (.bool true) []
 | _,_,_=>False
def acB:=acC.add KL
abbrev rR:=afy++oU dw
abbrev Gw (R:Prop):=aD .i64 (ah+1+1+1+1+1+1+1+1)/\ah<=ah+1+1+1+1+1+1+1+1/\ah+1+1+1+1+1+1+1+1< (↑iI:Int)/\ah<=ah+1+1+1+1+1+1+1+1/\ah+1+1+1+1+1+1+1+1< (↑iI:Int)/\R
abbrev Gv (R:Prop):=aD .i64 (ah+1+1+1+1+1+1+1)/\ah<=ah+1+1+1+1+1+1+1/\ah+1+1+1+1+1+1+1< (↑iI:Int)/\ah<=ah+1+1+1+1+1+1+1/\ah+1+1+1+1+1+1+1< (↑iI:Int)/\R
abbrev rM:=aB bP rR (ah+1+1+1+1+1+1+1+1)
abbrev wJ (R:Prop):=ah<=ah+1+1+1+1+1+1/\ah+1+1+1+1+1+1< (↑iI:Int)/\R
abbrev rK:=aB bP rR (ah+1+1+1+1+1+1+1)
abbrev wI (R:Prop):=ah<=ah+1+1+1+1+1/\ah+1+1+1+1+1< (↑iI:Int)/\R
abbrev wH (R:Prop):=ah<=ah+1+1+1/\ah+1+1+1< (↑iI:Int)/\R
abbrev yN (R:Prop):=aD .i64 dR/\ah<=ah+1+1/\ah+1+1< (↑iI:Int)/\ah<=ah+1+1/\ah+1+1< (↑iI:Int)/\R
abbrev yL (R:Prop):=aD .i64 dK/\ah<=ah+1/\ah+1< (↑iI:Int)/\ah<=ah+1/\ah+1< (↑iI:Int)/\R
abbrev yG (R:Prop):=iI<=eU->ah<=ah/\ah< (↑iI:Int)/\ah<=ah/\ah< (↑iI:Int)/\R
abbrev mZ:=aB bP rR ah
abbrev mY:=aB bP rR dK
abbrev mX:=aB bP rR dR
abbrev mW:=aB bP rR eu
abbrev mV:=aB bP rR eV
abbrev mU:=aB bP rR fV
abbrev mT:=aB bP rR kU
abbrev yo (R:Prop):=aD .i64 (ah+1+1+1+1+1+1+1+1+1)/\R
def FG (mo ui gi lk xa st sz fr off:Int) (tg:ByteArray):dx:=λQ=>aD .i64 2->cz mo ui gi (cz lk xa st (cz sz fr off (du tg ((216:Nat)<=ck/\iI<=eU/\(yG (Ty.ok bP mZ->br (cV mo) (bc Q) (br (decide (mo>mZ.2.2.1)) 
 (bc Q) (yL (Ty.ok bP mY->br (cV ui) (bc Q) (br (decide (ui>mY.2.2.1)) (bc Q) (yN (Ty.ok bP mX->br (cV gi) (bc Q) (br (decide (gi>mX.2.2.1)) (bc Q) (aD .i64 eu/\wH (wH 
 (Ty.ok bP mW->br (cV lk) (bc Q) (br (decide (lk>mW.2.2.1)) (bc Q) (aD .i64 eV/\fU (ah+1+1+1+1< (↑iI:Int)/\fU (ah+1+1+1+1< (↑iI:Int)/\(Ty.ok bP mV->br (cV xa) 
 (bc Q) (br (decide (xa>mV.2.2.1)) (bc Q) (aD .i64 fV/\wI (wI (Ty.ok bP mU->br (cV st) (bc Q) (br (decide (st>mU.2.2.1)) (bc Q) (aD .i64 kU/\wJ (wJ (Ty.ok bP mT->br (cV 
 sz) (bc Q) (br (decide (sz>mT.2.2.1)) (bc Q) (Gv (Ty.ok bP rK->br (cV fr) (bc Q) (br (decide (fr>rK.2.2.1)) (bc Q) (Gw (Ty.ok bP rM->br (cV off) (bc Q) (br (decide (off>rM.2.2.1)) 
 (bc Q) (yo (br (!(dw==2&& (mo==mo&& (ui==ui&& (gi==gi&& (lk==lk&& (xa==xa&& (st==st&& (sz==sz&& (fr==fr&& (off==off&& (kT (ByteArray.mk #[]) tg&& true)))))))))))) (bc Q) (br (decide (lk< 1)) 
 (bc Q) (bF≠ah/\(aD .i64 (Int.tmod sz bF)->br (decide (fr>0)==decide (Int.tmod sz bF>ah)) (br (decide (Int.tmod sz bF>ah)) (Q nF []) (Q (.v (.c (.k (.bool (off==0))))) [])) (bc 
 Q))))))))))))))))))))))))))))))))))))))))))
theorem KK:cu 134 Oo:=by
 intro args H Q h;unfold Oo at h;split at h;rotate_left;cases h;rename_i mo ui gi lk xa st sz fr off tg;refine Wp.dC acB ic ⟨[],[]⟩ Tryz.f134 (FG mo ui gi lk xa st sz fr off tg) (unr:=[(5,11)]) ?_;unfold FG yo mT mU mV mW mX mY mZ yG yL du yN cV wH bc dK wI rK wJ rM fU Gv Gw eU dR kU eu fV ck eV rR cz iX nF ah bF dw aJ iI;obtain ⟨fq,hk,rfl,h⟩:=h;refine λ_ _ _ _ _ _ _ _ _ _ _=>⟨by decide,by decide,λ_=>?_⟩;refine ⟨by decide,by decide,by decide,by decide,λ_=>kg fq.q1.1 fq.q1.2 ⟨by unfold aD;decide,?_⟩⟩;refine ⟨by decide,by decide,by decide,by decide,λ_=>kg fq.q2.1 fq.q2.2 ⟨by unfold aD;decide,?_⟩⟩;refine ⟨by decide,by decide,by decide,by decide,λ_=>kg fq.q3.1 fq.q3.2 ⟨by unfold aD;decide,?_⟩⟩;refine ⟨by decide,by decide,by decide,by decide,λ_=>kg (⟨by have:=fq.q4.1;omega,fq.q4.2⟩:0<=(lk:Int)/\(lk:Int)<=1024).1 (⟨by have:=fq.q4.1;omega,fq.q4.2⟩:0<=(lk:Int)/\(lk:Int)<=1024).2 ⟨by unfold aD;decide,?_⟩⟩;refine ⟨by decide,by decide,by decide,by decide,λ_=>kg fq.q5.1 fq.q5.2 ⟨by unfold aD;decide,?_⟩⟩;refine ⟨by decide,by decide,by decide,by decide,λ_=>kg hk.r1.1 hk.r1.2 ⟨by unfold aD;decide,?_⟩⟩;refine ⟨by decide,by decide,by decide,by decide,λ_=>kg hk.r2.1 hk.r2.2 ⟨by unfold aD;decide,?_⟩⟩;refine ⟨by decide,by decide,by decide,by decide,λ_=>kg hk.r3.1 hk.r3.2 ⟨by unfold aD;decide,?_⟩⟩;refine ⟨by decide,by decide,by decide,by decide,λ_=>kg hk.r4.1 hk.r4.2 ⟨by unfold aD;decide,?_⟩⟩;rw [Qx];refine aq (λhc=>by cases hc) (λ_=>aq (λhc=>absurd (of_decide_eq_true hc) (by have:=fq.q4.1;omega)) (λ_=>?_));have ht:=hk.tail;have h0:=hk.r2.1;rw [Int.tmod_eq_emod_of_nonneg h0];refine ⟨by decide,λ_=>aq (λ_=>aq (λ_=>h) (λhd=>?_)) (λhc=>?_)⟩
 .have hd:=of_decide_eq_false hd;have:off=0:=by rcases ht.2 with a| a;exact absurd a (by omega);exact a
  subst this;exact h
 .refine absurd ?_ (by rw [hc];decide:¬((decide (fr>0)==decide (sz % 128>0))=true));rw [beq_iff_eq];exact decide_eq_decide.2 ht.1
def On:Ct
 | [.v (.agg [.k (.int .i64 3),.k (.int .i64 mo),.k (.int .i64 ui),.k (.int .i64 gi),.k (.int .i64 lk),.k (.int .i64 xa),.k (.int .i64 st),.k (.int .i64 sz),.k (.int .i64 fr),.k (.int .i64 off),.k (.string tg)])],[],Q=>Ec mo ui gi lk xa/\zH tg/\st=0/\sz=0/\fr=0/\off=0/\Q (.bool true) []
 | _,_,_=>False
def acA:=acB.add KK
abbrev zZ:=afy++oU jY
abbrev wG (R:Prop):=ah<=ah+1+1+1/\ah+1+1+1< (↑jX:Int)/\R
abbrev yM (R:Prop):=aD .i64 dR/\ah<=ah+1+1/\ah+1+1< (↑jX:Int)/\ah<=ah+1+1/\ah+1+1< (↑jX:Int)/\R
abbrev yK (R:Prop):=aD .i64 dK/\ah<=ah+1/\ah+1< (↑jX:Int)/\ah<=ah+1/\ah+1< (↑jX:Int)/\R
abbrev yF (R:Prop):=jX<=eU->ah<=ah/\ah< (↑jX:Int)/\ah<=ah/\ah< (↑jX:Int)/\R
abbrev IS (y0) (y1:SV->List HO->Prop):=aD .i64 (Lib.indexByte y0 (Nat.toUInt8 bx))->y1 (.v (.c (.k (.bool (decide (Lib.indexByte y0 (Nat.toUInt8 bx)< 0)))))) []
abbrev mS:=aB bP zZ ah
abbrev mR:=aB bP zZ dK
abbrev mQ:=aB bP zZ dR
abbrev mP:=aB bP zZ eu
abbrev mO:=aB bP zZ eV
def FE (mo ui gi lk xa st sz fr off:Int) (tg:ByteArray):dx:=λQ=>aD .i64 3->cz mo ui gi (cz lk xa st (cz sz fr off (du tg ((120:Nat)<=ck/\jX<=eU/\(yF (Ty.ok bP mS->br (cV mo) (bc Q) (br (decide (mo>mS.2.2.1)) 
 (bc Q) (yK (Ty.ok bP mR->br (cV ui) (bc Q) (br (decide (ui>mR.2.2.1)) (bc Q) (yM (Ty.ok bP mQ->br (cV gi) (bc Q) (br (decide (gi>mQ.2.2.1)) (bc Q) (aD .i64 eu/\wG (wG 
 (Ty.ok bP mP->br (cV lk) (bc Q) (br (decide (lk>mP.2.2.1)) (bc Q) (aD .i64 eV/\fU (ah+1+1+1+1< (↑jX:Int)/\fU (ah+1+1+1+1< (↑jX:Int)/\(Ty.ok bP mO->br (cV xa) 
 (bc Q) (br (decide (xa>mO.2.2.1)) (bc Q) (aD .i64 fV/\br (!(jY==3&& (mo==mo&& (ui==ui&& (gi==gi&& (lk==lk&& (xa==xa&& (ah==st&& (ah==sz&& (ah==fr&& (ah==off&& (kT tg tg&& 
 true)))))))))))) (bc Q) (br (decide (lk< 1)) (bc Q) (br (decide ((gY tg)>ah)) (br (decide ((gY tg)<=(200:Int))) (IS tg.data.toList Q) (bc Q)) (bc Q))))))))))))))))))))))))))
theorem KJ:cu 134 On:=by
 intro args H Q h;unfold On at h;split at h;rotate_left;cases h;rename_i mo ui gi lk xa st sz fr off tg;refine Wp.dC acA ic ⟨[],[]⟩ Tryz.f134 (FE mo ui gi lk xa st sz fr off tg) (unr:=[(5,11)]) ?_;unfold FE mO mP mQ mR mS IS yF yK du yM cV wG bc dK gY fU eU dR zZ eu fV ck eV cz iX ah jY aJ bx jX;obtain ⟨fq,hk,rfl,rfl,rfl,rfl,h⟩:=h;refine λ_ _ _ _ _ _ _ _ _ _ _=>⟨by decide,by decide,λ_=>?_⟩;refine ⟨by decide,by decide,by decide,by decide,λ_=>kg fq.q1.1 fq.q1.2 ⟨by unfold aD;decide,?_⟩⟩;refine ⟨by decide,by decide,by decide,by decide,λ_=>kg fq.q2.1 fq.q2.2 ⟨by unfold aD;decide,?_⟩⟩;refine ⟨by decide,by decide,by decide,by decide,λ_=>kg fq.q3.1 fq.q3.2 ⟨by unfold aD;decide,?_⟩⟩;refine ⟨by decide,by decide,by decide,by decide,λ_=>kg (⟨by have:=fq.q4.1;omega,fq.q4.2⟩:0<=(lk:Int)/\(lk:Int)<=1024).1 (⟨by have:=fq.q4.1;omega,fq.q4.2⟩:0<=(lk:Int)/\(lk:Int)<=1024).2 ⟨by unfold aD;decide,?_⟩⟩;refine ⟨by decide,by decide,by decide,by decide,λ_=>kg fq.q5.1 fq.q5.2 ⟨by unfold aD;decide,?_⟩⟩;rw [Qx];refine aq (λhc=>by cases hc) (λ_=>aq (λhc=>absurd (of_decide_eq_true hc) (by have:=fq.q4.1;omega)) (λ_=>?_));refine aq (λ_=>aq (λ_=>λ_=>?_) (λhc=>absurd (of_decide_eq_false hc) (by have:=hk.len;omega))) (λhc=>absurd (of_decide_eq_false hc) (by have:=hk.len;omega));rw [show decide (Lib.indexByte tg.data.toList (Nat.toUInt8 0)< 0)=true from ajy hk.nul];exact h
def Uf:Ct
 | [.v (.agg ci)],[],Q=>(match eC.of ci with
  | some (i,[])=>o8 i/\Q (.bool true) []
  | _=>False)
 | _,_,_=>False
theorem ad6:cu 134 Uf:=by
 intro args H Q h;unfold Uf at h;split at h;rotate_left
 .grind
 split at h;rotate_left
 .grind
 rename_i i hi;refine Wp.said (args':=[.v (.agg (eC.cells i))]) (by grind [bm.cr, Jd]) ?_;obtain ⟨k0,mo,ui,gi,lk,xa,st,sz,fr,off,tg,⟨⟩⟩:=i;obtain ⟨⟨hc,ho⟩,h⟩:=h;rcases ho with ⟨e,ho⟩| ⟨e,ho⟩| ⟨e,ho⟩
 .subst e;exact KL _ _ _ ⟨hc,ho.1,ho.2.1,ho.2.2.1,ho.2.2.2.1,ho.2.2.2.2,h⟩
 .subst e;exact KK _ _ _ ⟨hc,ho.1,ho.2,h⟩
 .subst e;exact KJ _ _ _ ⟨hc,ho.1,ho.2.1,ho.2.2.1,ho.2.2.2.1,ho.2.2.2.2,h⟩
def Om:Ct
 | [.v (.agg [.k (.int .i64 1),.k (.int .i64 mo),.k (.int .i64 ui),.k (.int .i64 gi),.k (.int .i64 lk),.k (.int .i64 xa),.k (.int .i64 st),.k (.int .i64 sz),.k (.int .i64 fr),.k (.int .i64 off),.k (.string tg)])],[],Q=>Ec mo ui gi lk xa/\UL st sz/\lk=1/\fr=0/\off=0/\tg=⟨#[]⟩/\Q (.cH [.c (.d .u8 (Zb mo ui gi xa st sz)),.c (.k (.int .i64 0))]) []
 | _,_,_=>False
def acz:=(acA.add KJ).add ad6
abbrev SO (y0:Int) (y1:Int) (y2:Int) (y3:Int) (y4:Int) (y5:Int) (y6:Int):=[]++aI bH bH++aI a8 (aU y0)++aI a8 (aU y1)++aI a8 (aU y2)++aI a8 (aU y3)++aI cW (aU y4)++aI cW (aU y5)++aI cW (aU y6)
abbrev pJ (R:Prop):=ah=ah/\(aV<=aV/\aV<=cL)/\R
def FD (mo ui gi lk xa st sz fr off:Int) (tg:ByteArray):dx:=λQ=>aD .i64 1->cz mo ui gi (cz lk xa st (cz sz fr off (du tg (o8 (aV,mo,ui,gi,lk,xa,st,sz,fr,off,tg,())/\pJ ((ah<=aV/\aV< fe ^ bH)/\bx<=j7 
 /\(168:Nat)<=ck/\jW<=eU/\(jW<=eU->l5 (l5 (Ty.ok bP nk->bj ((aV<=nk.2.1/\nk.2.1<=4)/\(lh mo)/\bH<=j7/\aD .i64 dK/\l7 (l7 (Ty.ok bP nj->bj ((aV 
 <=nj.2.1/\nj.2.1<=4)/\(lh ui)/\List.length ([]++aI bH bH++aI a8 (aU mo))<=100000000000/\aD .i64 dR/\pW (pW (Ty.ok bP ni->bj ((aV<=ni.2.1/\ni.2.1<=4)/\(lh gi)/\ 
 List.length ([]++aI bH bH++aI a8 (aU mo)++aI a8 (aU ui))<=100000000000/\aD .i64 eu/\pY (pY (Ty.ok bP nh->bj ((aV<=nh.2.1/\nh.2.1<=4)/\(lh lk)/\List.length ([]++aI 
 bH bH++aI a8 (aU mo)++aI a8 (aU ui)++aI a8 (aU gi))<=100000000000/\aD .i64 eV/\fU (lV (fU (lV (Ty.ok bP ng->bj ((aV<=ng.2.1/\ng.2.1<=4)/\(oC xa)/\ 
 List.length ([]++aI bH bH++aI a8 (aU mo)++aI a8 (aU ui)++aI a8 (aU gi)++aI a8 (aU lk))<=100000000000/\aD .i64 fV/\qb (qb (Ty.ok bP nf->bj ((aV<=nf.2.1/\ 
 nf.2.1<=4)/\(oC st)/\List.length ([]++aI bH bH++aI a8 (aU mo)++aI a8 (aU ui)++aI a8 (aU gi)++aI a8 (aU lk)++aI cW (aU xa))<=100000000000/\aD .i64 kU/\qc (qc 
 (Ty.ok bP nc->bj ((aV<=nc.2.1/\nc.2.1<=4)/\(oC sz)/\List.length ([]++aI bH bH++aI a8 (aU mo)++aI a8 (aU ui)++aI a8 (aU gi)++aI a8 (aU lk)++aI cW (aU 
 xa)++aI cW (aU st))<=100000000000/\pI (bj (List.length (SO mo ui gi lk xa st sz)<=100000000000/\(aJ (List.length (SO mo ui gi lk xa st sz))->aD .i64 0->Q (SV.cH [S1.c (Cl.d Ty.u8 (SO mo ui gi lk xa st 
 sz)),.c (.k aR)]) []))))))))))))))))))))))))))))))))
theorem KI:cu 84 Om:=by
 intro args H Q h;unfold Om at h;split at h;rotate_left;cases h;rename_i mo ui gi lk xa st sz fr off tg;refine Wp.kC [some (.sl .u8),none] [] ?_;refine Wp.dC acz ic ⟨[],[]⟩ Tryz.f84 (FD mo ui gi lk xa st sz fr off tg) (unr:=[(7,11)]) ?_;unfold FD oC lV j7 bj pI nc nf ng nh ni nj nk pJ l5 du l7 pW lh dK SO pY fU qb eU qc dR kU eu fV ck eV uI aU aR cz ah aV fe cL aJ bx bH a8 cW jW;obtain ⟨fq,hk,rfl,rfl,rfl,rfl,h⟩:=h;refine λ_ _ _ _ _ _ _ _ _ _ _=>⟨⟨fq,.inl ⟨rfl,hk,rfl,rfl,rfl,rfl⟩⟩,rfl,⟨by decide,by decide⟩,⟨by decide,by decide⟩,by decide,by decide,by decide,λ_=>?_⟩;refine ⟨by decide,by decide,by decide,by decide,λ_=>⟨rfl,⟨by decide,by decide⟩,⟨fq.q1.1,by have:=fq.q1.2;omega⟩,by decide,by unfold aD;decide,?_⟩⟩;refine ⟨by decide,by decide,by decide,by decide,λ_=>⟨rfl,⟨by decide,by decide⟩,⟨fq.q2.1,by have:=fq.q2.2;omega⟩,(by simp only [af,aE,aO];decide),by unfold aD;decide,?_⟩⟩;refine ⟨by decide,by decide,by decide,by decide,λ_=>⟨rfl,⟨by decide,by decide⟩,⟨fq.q3.1,by have:=fq.q3.2;omega⟩,(by simp only [af,aE,aO];decide),by unfold aD;decide,?_⟩⟩;refine ⟨by decide,by decide,by decide,by decide,λ_=>⟨rfl,⟨by decide,by decide⟩,⟨(⟨by decide,by decide⟩:0<=(1:Int)/\(1:Int)<=1024).1,by have:=(⟨by decide,by decide⟩:0<=(1:Int)/\(1:Int)<=1024).2;show _< (65536:Int);omega⟩,(by simp only [af,aE,aO];decide),by unfold aD;decide,?_⟩⟩;refine ⟨by decide,by decide,by decide,by decide,λ_=>⟨rfl,⟨by decide,by decide⟩,⟨fq.q5.1,by have:=fq.q5.2;show _< (4294967296:Int);omega⟩,(by simp only [af,aE,aO];decide),by unfold aD;decide,?_⟩⟩;refine ⟨by decide,by decide,by decide,by decide,λ_=>⟨rfl,⟨by decide,by decide⟩,⟨hk.r1.1,by have:=hk.r1.2;show _< (4294967296:Int);omega⟩,(by simp only [af,aE,aO];decide),by unfold aD;decide,?_⟩⟩;refine ⟨by decide,by decide,by decide,by decide,λ_=>⟨rfl,⟨by decide,by decide⟩,⟨hk.r2.1,by have:=hk.r2.2;show _< (4294967296:Int);omega⟩,(by simp only [af,aE,aO];decide),by unfold aD;decide,?_⟩⟩;refine ⟨rfl,(by simp only [af,aE,aO];decide),λ_ _=>?_⟩;exact ⟨aG _,h⟩
def Ol:Ct
 | [.v (.agg [.k (.int .i64 2),.k (.int .i64 mo),.k (.int .i64 ui),.k (.int .i64 gi),.k (.int .i64 lk),.k (.int .i64 xa),.k (.int .i64 st),.k (.int .i64 sz),.k (.int .i64 fr),.k (.int .i64 off),.k (.string tg)])],[],Q=>Ec mo ui gi lk xa/\zI st sz fr off/\tg=⟨#[]⟩/\Q (.cH [.c (.d .u8 (Za mo ui gi lk xa st sz fr off)),.c (.k (.int .i64 0))]) []
 | _,_,_=>False
def acy:=acz.add KI
def FC (mo ui gi lk xa st sz fr off:Int) (tg:ByteArray):dx:=λQ=>aD .i64 2->cz mo ui gi (cz lk xa st (cz sz fr off (du tg (o8 (dw,mo,ui,gi,lk,xa,st,sz,fr,off,tg,())/\pJ ((ah<=dw/\dw< fe ^ bH)/\bx<=j7 
 /\(216:Nat)<=ck/\iI<=eU/\(yG (Ty.ok bP mZ->bj ((aV<=mZ.2.1/\mZ.2.1<=4)/\(lh mo)/\bH<=j7/\yL (Ty.ok bP mY->bj ((aV<=mY.2.1/\mY.2.1<=4)/\(lh ui)/\ 
 List.length ([]++aI bH a8++aI a8 (aU mo))<=100000000000/\yN (Ty.ok bP mX->bj ((aV<=mX.2.1/\mX.2.1<=4)/\(lh gi)/\List.length ([]++aI bH a8++aI a8 (aU mo)++aI 
 a8 (aU ui))<=100000000000/\aD .i64 eu/\wH (wH (Ty.ok bP mW->bj ((aV<=mW.2.1/\mW.2.1<=4)/\(lh lk)/\List.length ([]++aI bH a8++aI a8 (aU mo)++aI a8 (aU ui)++ 
 aI a8 (aU gi))<=100000000000/\aD .i64 eV/\fU (ah+1+1+1+1< (↑iI:Int)/\fU (ah+1+1+1+1< (↑iI:Int)/\(Ty.ok bP mV->bj ((aV<=mV.2.1/\mV.2.1<=4)/\(oC xa)/\ 
 List.length ([]++aI bH a8++aI a8 (aU mo)++aI a8 (aU ui)++aI a8 (aU gi)++aI a8 (aU lk))<=100000000000/\aD .i64 fV/\wI (wI (Ty.ok bP mU->bj ((aV<=mU.2.1/\ 
 mU.2.1<=4)/\(oC st)/\List.length ([]++aI bH a8++aI a8 (aU mo)++aI a8 (aU ui)++aI a8 (aU gi)++aI a8 (aU lk)++aI cW (aU xa))<=100000000000/\aD .i64 kU/\wJ (wJ 
 (Ty.ok bP mT->bj ((aV<=mT.2.1/\mT.2.1<=4)/\(lh sz)/\List.length ([]++aI bH a8++aI a8 (aU mo)++aI a8 (aU ui)++aI a8 (aU gi)++aI a8 (aU lk)++aI cW (aU 
 xa)++aI cW (aU st))<=100000000000/\Gv (Ty.ok bP rK->bj ((aV<=rK.2.1/\rK.2.1<=4)/\(lh fr)/\List.length ([]++aI bH a8++aI a8 (aU mo)++aI a8 (aU ui)++aI a8 (aU 
 gi)++aI a8 (aU lk)++aI cW (aU xa)++aI cW (aU st)++aI a8 (aU sz))<=100000000000/\Gw (Ty.ok bP rM->bj ((aV<=rM.2.1/\rM.2.1<=4)/\(0<=off/\off< 256 ^ bH)/\List.length 
 ([]++aI bH a8++aI a8 (aU mo)++aI a8 (aU ui)++aI a8 (aU gi)++aI a8 (aU lk)++aI cW (aU xa)++aI cW (aU st)++aI a8 (aU sz)++aI a8 (aU fr))<=100000000000 
 /\yo (bj (List.length ([]++aI bH a8++aI a8 (aU mo)++aI a8 (aU ui)++aI a8 (aU gi)++aI a8 (aU lk)++aI cW (aU xa)++aI cW (aU st)++aI a8 (aU sz)++aI 
 a8 (aU fr)++aI bH (aU off))<=100000000000/\(aJ (List.length ([]++aI bH a8++aI a8 (aU mo)++aI a8 (aU ui)++aI a8 (aU gi)++aI a8 (aU lk)++aI cW (aU xa)++aI 
 cW (aU st)++aI a8 (aU sz)++aI a8 (aU fr)++aI bH (aU off)))->aD .i64 0->Q (SV.cH [S1.c (Cl.d Ty.u8 ([]++aI bH a8++aI a8 (aU mo)++aI a8 (aU ui)++aI a8 (aU gi)++ 
 aI a8 (aU lk)++aI cW (aU xa)++aI cW (aU st)++aI a8 (aU sz)++aI a8 (aU fr)++aI bH (aU off))),.c (.k aR)]) []))))))))))))))))))))))))))))))))
theorem KH:cu 84 Ol:=by
 intro args H Q h;unfold Ol at h;split at h;rotate_left;cases h;rename_i mo ui gi lk xa st sz fr off tg;refine Wp.kC [some (.sl .u8),none] [] ?_;refine Wp.dC acy ic ⟨[],[]⟩ Tryz.f84 (FC mo ui gi lk xa st sz fr off tg) (unr:=[(7,11)]) ?_;unfold FC yo oC j7 bj mT mU mV mW mX mY mZ pJ yG yL du yN wH lh dK wI rK wJ rM fU Gv Gw eU dR kU eu fV ck eV rR aU aR cz ah aV dw fe cL aJ bx bH a8 cW iI;obtain ⟨fq,hk,rfl,h⟩:=h;refine λ_ _ _ _ _ _ _ _ _ _ _=>⟨⟨fq,.inr (.inl ⟨rfl,hk,rfl⟩)⟩,rfl,⟨by decide,by decide⟩,⟨by decide,by decide⟩,by decide,by decide,by decide,λ_=>?_⟩;refine ⟨by decide,by decide,by decide,by decide,λ_=>⟨rfl,⟨by decide,by decide⟩,⟨fq.q1.1,by have:=fq.q1.2;omega⟩,by decide,by unfold aD;decide,?_⟩⟩;refine ⟨by decide,by decide,by decide,by decide,λ_=>⟨rfl,⟨by decide,by decide⟩,⟨fq.q2.1,by have:=fq.q2.2;omega⟩,(by simp only [af,aE,aO];decide),by unfold aD;decide,?_⟩⟩;refine ⟨by decide,by decide,by decide,by decide,λ_=>⟨rfl,⟨by decide,by decide⟩,⟨fq.q3.1,by have:=fq.q3.2;show _< (65536:Int);omega⟩,(by simp only [af,aE,aO];decide),by unfold aD;decide,?_⟩⟩;refine ⟨by decide,by decide,by decide,by decide,λ_=>⟨rfl,⟨by decide,by decide⟩,⟨(⟨by have:=fq.q4.1;omega,fq.q4.2⟩:0<=(lk:Int)/\(lk:Int)<=1024).1,by have:=(⟨by have:=fq.q4.1;omega,fq.q4.2⟩:0<=(lk:Int)/\(lk:Int)<=1024).2;show _< (65536:Int);omega⟩,(by simp only [af,aE,aO];decide),by unfold aD;decide,?_⟩⟩;refine ⟨by decide,by decide,by decide,by decide,λ_=>⟨rfl,⟨by decide,by decide⟩,⟨fq.q5.1,by have:=fq.q5.2;show _< (4294967296:Int);omega⟩,(by simp only [af,aE,aO];decide),by unfold aD;decide,?_⟩⟩;refine ⟨by decide,by decide,by decide,by decide,λ_=>⟨rfl,⟨by decide,by decide⟩,⟨hk.r1.1,by have:=hk.r1.2;show _< (4294967296:Int);omega⟩,(by simp only [af,aE,aO];decide),by unfold aD;decide,?_⟩⟩;refine ⟨by decide,by decide,by decide,by decide,λ_=>⟨rfl,⟨by decide,by decide⟩,⟨hk.r2.1,by have:=hk.r2.2;show _< (65536:Int);omega⟩,(by simp only [af,aE,aO];decide),by unfold aD;decide,?_⟩⟩;refine ⟨by decide,by decide,by decide,by decide,λ_=>⟨rfl,⟨by decide,by decide⟩,⟨hk.r3.1,by have:=hk.r3.2;show _< (65536:Int);omega⟩,(by simp only [af,aE,aO];decide),by unfold aD;decide,?_⟩⟩;refine ⟨by decide,by decide,by decide,by decide,λ_=>⟨rfl,⟨by decide,by decide⟩,⟨hk.r4.1,by have:=hk.r4.2;show _< (256:Int);omega⟩,(by simp only [af,aE,aO];decide),by unfold aD;decide,?_⟩⟩;refine ⟨rfl,(by simp only [af,aE,aO];decide),λ_ _=>?_⟩;exact ⟨aG _,h⟩
def Oj:Ct
 | [.v (.agg [.k (.int .i64 3),.k (.int .i64 mo),.k (.int .i64 ui),.k (.int .i64 gi),.k (.int .i64 lk),.k (.int .i64 xa),.k (.int .i64 st),.k (.int .i64 sz),.k (.int .i64 fr),.k (.int .i64 off),.k (.string tg)])],[],Q=>Ec mo ui gi lk xa/\zH tg/\st=0/\sz=0/\fr=0/\off=0/\Q (.cH [.c (.d .u8 (VH mo ui gi lk xa tg)),.c (.k (.int .i64 0))]) []
 | _,_,_=>False
def D5:=acy.add KH
abbrev SN (y0:Int) (y1:Int) (y2:Int) (y3:Int) (y4:Int) (y5:ByteArray) (y6):=([]++aI bH eI++aI a8 (aU y0)++aI a8 (aU y1)++aI a8 (aU y2)++aI a8 (aU y3)++aI cW (aU y4)++az (ByteArray.size y5)::y6)
def FB (mo ui gi lk xa st sz fr off:Int) (tg:ByteArray):dx:=λQ=>aD .i64 3->cz mo ui gi (cz lk xa st (cz sz fr off (du tg (o8 (jY,mo,ui,gi,lk,xa,st,sz,fr,off,tg,())/\pJ ((ah<=jY/\jY< fe ^ bH)/\bx<=j7 
 /\(120:Nat)<=ck/\jX<=eU/\(yF (Ty.ok bP mS->bj ((aV<=mS.2.1/\mS.2.1<=4)/\(lh mo)/\bH<=j7/\yK (Ty.ok bP mR->bj ((aV<=mR.2.1/\mR.2.1<=4)/\(lh ui)/\ 
 List.length ([]++aI bH eI++aI a8 (aU mo))<=100000000000/\yM (Ty.ok bP mQ->bj ((aV<=mQ.2.1/\mQ.2.1<=4)/\(lh gi)/\List.length ([]++aI bH eI++aI a8 (aU mo)++aI 
 a8 (aU ui))<=100000000000/\aD .i64 eu/\wG (wG (Ty.ok bP mP->bj ((aV<=mP.2.1/\mP.2.1<=4)/\(lh lk)/\List.length ([]++aI bH eI++aI a8 (aU mo)++aI a8 (aU ui)++ 
 aI a8 (aU gi))<=100000000000/\aD .i64 eV/\fU (ah+1+1+1+1< (↑jX:Int)/\fU (ah+1+1+1+1< (↑jX:Int)/\(Ty.ok bP mO->bj ((aV<=mO.2.1/\mO.2.1<=4)/\(oC xa)/\ 
 List.length ([]++aI bH eI++aI a8 (aU mo)++aI a8 (aU ui)++aI a8 (aU gi)++aI a8 (aU lk))<=100000000000/\aD .i64 fV/\bj (ByteArray.size tg<=255/\List.length ([]++aI bH eI 
 ++aI a8 (aU mo)++aI a8 (aU ui)++aI a8 (aU gi)++aI a8 (aU lk)++aI cW (aU xa))<=1000000000/\bj (List.length (SN mo ui gi lk xa tg tg.data.toList)<=100000000000/\(aJ (List.length 
 (SN mo ui gi lk xa tg tg.data.toList))->aD .i64 0->Q (SV.cH [S1.c (Cl.d Ty.u8 (SN mo ui gi lk xa tg tg.data.toList)),.c (.k aR)]) []))))))))))))))))))))))
theorem sg:cu 84 Oj:=by
 intro args H Q h;unfold Oj at h;split at h;rotate_left;cases h;rename_i mo ui gi lk xa st sz fr off tg;refine Wp.kC [some (.sl .u8),none] [] ?_;refine Wp.dC D5 ic ⟨[],[]⟩ Tryz.f84 (FB mo ui gi lk xa st sz fr off tg) (unr:=[(7,11)]) ?_;unfold FB oC j7 bj mO mP mQ mR mS pJ yF yK du yM wG SN lh dK fU eU dR zZ eu fV ck eV aU aR cz ah aV fe jY cL aJ bx bH a8 eI cW jX;obtain ⟨fq,hk,rfl,rfl,rfl,rfl,h⟩:=h;refine λ_ _ _ _ _ _ _ _ _ _ _=>⟨⟨fq,by grind⟩,rfl,by omega,by omega,by decide,by decide,by decide,λ_=>?_⟩;refine ⟨by decide,by decide,by decide,by decide,λ_=>⟨rfl,by decide,⟨fq.q1.1,by have:=fq.q1.2;omega⟩,by decide,by trivial,?_⟩⟩;refine ⟨by decide,by decide,by decide,by decide,λ_=>⟨rfl,by decide,⟨fq.q2.1,by have:=fq.q2.2;omega⟩,(by grind [aE]),by trivial,?_⟩⟩;refine ⟨by decide,by decide,by decide,by decide,λ_=>⟨rfl,by decide,⟨fq.q3.1,by have:=fq.q3.2;omega⟩,(by grind [aE]),by grind,?_⟩⟩;refine ⟨by decide,by decide,by decide,by decide,λ_=>⟨rfl,by decide,⟨(⟨by have:=fq.q4.1;omega,fq.q4.2⟩:0<=(lk:Int)/\(lk:Int)<=1024).1,by have:=(⟨by have:=fq.q4.1;omega,fq.q4.2⟩:0<=(lk:Int)/\(lk:Int)<=1024).2;omega⟩,(by grind [aE]),by trivial,?_⟩⟩;refine ⟨by decide,by decide,by decide,by decide,λ_=>⟨rfl,by decide,⟨fq.q5.1,by have:=fq.q5.2;omega⟩,(by grind [aE]),by trivial,?_⟩⟩;have hl:=hk.len;have v8:tg.data.toList.length=tg.size:=rfl;refine ⟨rfl,by omega,(by grind [aE]),rfl,by grind [aE],λ_ _=>?_⟩;trivial
def JZ:Ct
 | [.v (.agg ci)],[],Q=>(match eC.of ci with
  | some (i,[])=>o8 i/\Q (.cH [.c (.d .u8 (fR i)),.c (.k (.int .i64 0))]) []
  | _=>False)
 | _,_,_=>False
theorem wi:cu 84 JZ:=by
 intro args H Q h;unfold JZ at h;split at h;rotate_left
 .grind
 split at h;rotate_left
 .grind
 rename_i i hi;refine Wp.said (args':=[.v (.agg (eC.cells i))]) (by grind [bm.cr, Jd]) ?_;obtain ⟨k0,mo,ui,gi,lk,xa,st,sz,fr,off,tg,⟨⟩⟩:=i;obtain ⟨⟨hc,ho⟩,h⟩:=h;rcases ho with ⟨e,ho⟩| ⟨e,ho⟩| ⟨e,ho⟩
 .obtain ⟨h1,h2,h3⟩:=ho;subst e h2;exact KI _ _ _ ⟨hc,h1,rfl,h3.1,h3.2.1,h3.2.2,h⟩
 .subst e;exact KH _ _ _ ⟨hc,ho.1,ho.2,h⟩
 .subst e;exact sg _ _ _ ⟨hc,ho.1,ho.2.1,ho.2.2.1,ho.2.2.2.1,ho.2.2.2.2,h⟩
def Hs:Ct
 | [.v (.c (.k (.int .i64 k)))],[],Q=>k=1/\Q (.c (.o 0)) [.sl 227 bP (oU 1)]
 | _,_,_=>False
theorem U5:cu 136 Hs:=by
 intro args H Q h;unfold Hs at h;split at h
 .obtain ⟨rfl,h⟩:=h;exact wj _ _ _ h
 grind
def zq:Ct
 | [.v (.c cb)],[],Q=>(match (Ty.sl Ty.u8).of [cb] with
  | some (b,[])=>∃ mo ui gi xa st sz,(Ec mo ui gi 1 xa/\UL st sz)/\b=Zb mo ui gi xa st sz/\Q (.cH [.agg [.k (.int .i64 1),.k (.int .i64 mo),.k (.int .i64 ui),.k (.int .i64 gi),.k (.int .i64 1),.k (.int .i64 xa),.k (.int .i64 st),.k (.int .i64 sz),.k (.int .i64 0),.k (.int .i64 0),.k (.string ⟨#[]⟩)],.c (.k (.int .i64 0))]) []
  | _=>False)
 | _,_,_=>False
def alh:=((D5.add sg).add wi).add U5
abbrev AE (y0:List (Ty.u8).den):=List.drop 2 (List.drop 2 (List.drop 2 (List.drop 1 y0)))
abbrev vf (y0:List (Ty.u8).den):=List.drop 4 (List.drop 4 (List.drop 2 (AE y0)))
abbrev rQ (y0:List (Ty.u8).den):=List.drop 2 (List.drop 1 y0)
abbrev ny (y0:List (Ty.u8).den):=List.drop 2 (AE y0)
abbrev pZ (y0:List (Ty.u8).den):=List.take a8 (List.drop 2 (rQ y0))
abbrev pX (y0:List (Ty.u8).den):=List.take a8 (List.drop 1 y0)
abbrev rH (y0:List (Ty.u8).den):=List.take cW (List.drop 4 (ny y0))
abbrev pV (y0:List (Ty.u8).den):=List.take a8 (rQ y0)
abbrev l8 (y0:List (Ty.u8).den):=List.take cW (ny y0)
abbrev l6 (y0:List (Ty.u8).den):=List.take a8 (AE y0)
abbrev jf (y0:List (Ty.u8).den):=List.take bH y0
abbrev yJ (y0:List (Ty.u8).den) (R:Prop):=fc (List.length y0)/\ah=ah/\aV<=aV/\aV<=cL/\aV<=(aA y0)/\fc (List.length y0)/\R
abbrev yH (y0) (y1) (R:Prop):=aJ (ByteArray.size (gu (List.take (cK y0) y1)))->ah=ah/\List.drop (cK y0) y1= []/\R
abbrev lj:Value:=.string (ByteArray.mk #[])
abbrev mN {A1:Type} (y0) (y1:List A1):=List.take (cK y0) y1
abbrev qT (y0:List (Ty.u8).den):Value:=.int .i64 (bK (jf y0))
abbrev qS (y0:List (Ty.u8).den):Value:=.int .i64 (bK (l6 y0))
abbrev qR (y0:List (Ty.u8).den):Value:=.int .i64 (bK (l8 y0))
abbrev qQ (y0:List (Ty.u8).den):Value:=.int .i64 (bK (pX y0))
abbrev qP (y0:List (Ty.u8).den):Value:=.int .i64 (bK (pV y0))
abbrev qO (y0:List (Ty.u8).den):Value:=.int .i64 (bK (pZ y0))
abbrev ym (y0:List (Ty.u8).den):=List.take cW (vf y0)
abbrev yj (y0:List (Ty.u8).den) (R:Prop):=List.length (List.drop 4 (ny y0))<=140737488355328/\R
abbrev qJ (y0:List (Ty.u8).den):=List.drop 2 (rQ y0)
def BJ (b:(List (Ty.u8).den)):dx:=λQ=>cU b (yJ b (aD .i64 (bK (jf b))->bK (jf b)=aV/\(168:Nat)<=ck/\jW<=eU/\(jW<=eU->l5 (l5 (Ty.ok bP nk->bj (aV<=nk.2.1/\nk.2.1<=4/\nk.2.1<= 
 (aS (List.drop 1 b))/\fc (List.length (List.drop 1 b))/\(aD .i64 (bK (pX b))->aD .i64 dK/\l7 (l7 (Ty.ok bP nj->bj (aV<=nj.2.1/\nj.2.1<=4/\nj.2.1<=(aS (rQ b))/\fc (List.length 
 (rQ b))/\(aD .i64 (bK (pV b))->aD .i64 dR/\pW (pW (Ty.ok bP ni->bj (aV<=ni.2.1/\ni.2.1<=4/\ni.2.1<=(aS (qJ b))/\fc (List.length (qJ b))/\(aD .i64 (bK (pZ b))->aD 
 .i64 eu/\pY (pY (Ty.ok bP nh->bj (aV<=nh.2.1/\nh.2.1<=4/\nh.2.1<=(aS (AE b))/\fc (List.length (AE b))/\(aD .i64 (bK (l6 b))->aD .i64 eV/\fU (lV (fU (lV (Ty.ok 
 bP ng->bj (aV<=ng.2.1/\ng.2.1<=4/\ng.2.1<=(↑(List.length (ny b)):Int)/\List.length (ny b)<=140737488355328/\(aD .i64 (bK (l8 b))->aD .i64 fV/\qb (qb (Ty.ok bP nf->bj 
 (aV<=nf.2.1/\nf.2.1<=4/\nf.2.1<=(↑(List.length (List.drop 4 (ny b))):Int)/\yj b (aD .i64 (bK (rH b))->aD .i64 kU/\qc (qc (Ty.ok bP nc->bj (aV<=nc.2.1/\nc.2.1<=4/\ 
 nc.2.1<=(↑(List.length (vf b)):Int)/\List.length (vf b)<=140737488355328/\(aD .i64 (bK (ym b))->pI (br (bK (jf b)==3) (bj (∃ z r,List.drop cW (vf b)=z::r/\cK z<=List.length r/\ 
 List.length (List.drop 4 (vf b))<=140737488355328/\(yH z r (aD .i64 0->o8 (bK (jf b),bK (pX b),bK (pV b),bK (pZ b),bK (l6 b),bK (l8 b),bK (rH b),bK (ym b),ah,ah,gu 
 (mN z r),())/\Q (SV.cH [S1.agg [.k (qT b),.k (qQ b),.k (qP b),.k (qO b),.k (qS b),.k (qR b),.k (.int .i64 (bK (rH b))),.k (.int .i64 (bK (ym b))),.k aR,.k aR,.k (.string (gu 
 (mN z r)))],.c (.k aR)]) [])))) (bj (List.drop cW (vf b)= []/\(aD .i64 0->o8 (bK (jf b),bK (pX b),bK (pV b),bK (pZ b),bK (l6 b),bK (l8 b),bK (rH b),bK (ym b),ah, 
 ah,ByteArray.mk #[],())/\Q (SV.cH [S1.agg [.k (qT b),.k (qQ b),.k (qP b),.k (qO b),.k (qS b),.k (qR b),.k (.int .i64 (bK (rH b))),.k (.int .i64 (bK (ym b))),.k aR,.k aR,.k lj], 
 .c (.k aR)]) [])))))))))))))))))))))))))))))))))))))
theorem tJ:cu 196 zq:=by
 intro args H Q h;unfold zq at h;split at h;rotate_left;cases h;rename_i cb;split at h;rotate_left;cases h;rename_i b hb;refine Wp.said (args':=[.c (.d Ty.u8 b)]) (λE g=>bm.cr (dH hb) (λ_ h=>h)) ?_;clear hb;refine Wp.dC alh ic ⟨[],[]⟩ Tryz.f196 (BJ b) (unr:=[(5,11)]) ?_;unfold BJ qJ yj ym qO qP qQ qR qS qT lV bj mN pI nc nf ng nh ni nj nk lj yH yJ l5 jf l6 l7 l8 pV rH pW dK pX pY fU pZ qb ny eU qc dR kU eu fV ck cU eV rQ uI aR vf AE ah aV cL aS aA fc aJ bH a8 cW jW;obtain ⟨mo,ui,gi,xa,st,sz,⟨fq,hk⟩,rfl,h⟩:=h;have e0:bK (aI 1 (ax 1))=1:=ez (by decide) (by decide);have e1:bK (aI 2 (ax mo))=mo:=ez fq.q1.1 (by have:=fq.q1.2;show _< (65536:Int);omega);have e2:bK (aI 2 (ax ui))=ui:=ez fq.q2.1 (by have:=fq.q2.2;show _< (65536:Int);omega);have e3:bK (aI 2 (ax gi))=gi:=ez fq.q3.1 (by have:=fq.q3.2;show _< (65536:Int);omega);have e4:bK (aI 2 (ax 1))=1:=ez (⟨by decide,by decide⟩:0<=(1:Int)/\(1:Int)<=1024).1 (by have:=(⟨by decide,by decide⟩:0<=(1:Int)/\(1:Int)<=1024).2;show _< (65536:Int);omega);have e5:bK (aI 4 (ax xa))=xa:=ez fq.q5.1 (by have:=fq.q5.2;show _< (4294967296:Int);omega);have e6:bK (aI 4 (ax st))=st:=ez hk.r1.1 (by have:=hk.r1.2;show _< (4294967296:Int);omega);have e7:bK (aI 4 (ax sz))=sz:=ez hk.r2.1 (by have:=hk.r2.2;show _< (4294967296:Int);omega);unfold Zb cmB;simp only [aL,iK,iM,L6,NU,e0,e1,e2,e3,e4,e5,e6,e7];refine λ_=>⟨by simp only [af,aE];omega,by trivial,by decide,by decide,by simp only [af,aE];omega,by simp only [af,aE];omega,λ_=>⟨by trivial,by decide,by decide,λ_=>?_⟩⟩;refine ⟨by decide,by decide,by decide,by decide,λ_=>⟨by trivial,by decide,by decide,by show (2:Int)<=_;simp only [af,aE];omega,by simp only [af,aE];omega,λ_=>⟨by unfold aD;decide,?_⟩⟩⟩;refine ⟨by decide,by decide,by decide,by decide,λ_=>⟨by trivial,by decide,by decide,by show (2:Int)<=_;simp only [af,aE];omega,by simp only [af,aE];omega,λ_=>⟨by unfold aD;decide,?_⟩⟩⟩;refine ⟨by decide,by decide,by decide,by decide,λ_=>⟨by trivial,by decide,by decide,by show (2:Int)<=_;simp only [af,aE];omega,by simp only [af,aE];omega,λ_=>⟨by unfold aD;decide,?_⟩⟩⟩;refine ⟨by decide,by decide,by decide,by decide,λ_=>⟨by trivial,by decide,by decide,by show (2:Int)<=_;simp only [af,aE];omega,by simp only [af,aE];omega,λ_=>⟨by unfold aD;decide,?_⟩⟩⟩;refine ⟨by decide,by decide,by decide,by decide,λ_=>⟨by trivial,by decide,by decide,by show (4:Int)<=_;simp only [af,aE];omega,by simp only [af,aE];omega,λ_=>⟨by unfold aD;decide,?_⟩⟩⟩;refine ⟨by decide,by decide,by decide,by decide,λ_=>⟨by trivial,by decide,by decide,by show (4:Int)<=_;simp only [af,aE];omega,by simp only [af,aE];omega,λ_=>⟨by unfold aD;decide,?_⟩⟩⟩;refine ⟨by decide,by decide,by decide,by decide,λ_=>⟨by trivial,by decide,by decide,by show (4:Int)<=_;simp only [aE];omega,by simp only [aE];omega,λ_=>⟨by unfold aD;decide,?_⟩⟩⟩;refine aq (λhc=>by cases hc) (λ_=>⟨by trivial,by trivial,λ_=>⟨⟨fq,.inl ⟨rfl,hk,rfl,rfl,rfl,rfl⟩⟩,h⟩⟩)
def Hr:Ct
 | [.v (.c (.k (.int .i64 k)))],[],Q=>k=2/\Q (.c (.o 0)) [.sl 227 bP (oU 2)]
 | _,_,_=>False
theorem U4:cu 136 Hr:=by
 intro args H Q h;unfold Hr at h;split at h
 .obtain ⟨rfl,h⟩:=h;exact wj _ _ _ h
 grind
def zp:Ct
 | [.v (.c cb)],[],Q=>(match (Ty.sl Ty.u8).of [cb] with
  | some (b,[])=>∃ mo ui gi lk xa st sz fr off,(Ec mo ui gi lk xa/\zI st sz fr off)/\b=Za mo ui gi lk xa st sz fr off/\Q (.cH [.agg [.k (.int .i64 2),.k (.int .i64 mo),.k (.int .i64 ui),.k (.int .i64 gi),.k (.int .i64 lk),.k (.int .i64 xa),.k (.int .i64 st),.k (.int .i64 sz),.k (.int .i64 fr),.k (.int .i64 off),.k (.string ⟨#[]⟩)],.c (.k (.int .i64 0))]) []
  | _=>False)
 | _,_,_=>False
def alg:=(((D5.add sg).add wi).add tJ).add U4
abbrev vC (y0:List (Ty.u8).den):=List.drop 2 (List.drop 2 (vf y0))
abbrev yA (y0:List (Ty.u8).den):=List.take a8 (List.drop 2 (vf y0))
abbrev yu (y0:List (Ty.u8).den):=List.take bH (vC y0)
abbrev yl (y0:List (Ty.u8).den):=List.take a8 (vf y0)
def BI (b:(List (Ty.u8).den)):dx:=λQ=>cU b (yJ b (aD .i64 (bK (jf b))->bK (jf b)=dw/\(216:Nat)<=ck/\iI<=eU/\(yG (Ty.ok bP mZ->bj (aV<=mZ.2.1/\mZ.2.1<=4/\mZ.2.1<=(aS (List.drop 1 b))/\ 
 fc (List.length (List.drop 1 b))/\(aD .i64 (bK (pX b))->yL (Ty.ok bP mY->bj (aV<=mY.2.1/\mY.2.1<=4/\mY.2.1<=(aS (rQ b))/\fc (List.length (rQ b))/\(aD .i64 (bK (pV b))->yN 
 (Ty.ok bP mX->bj (aV<=mX.2.1/\mX.2.1<=4/\mX.2.1<=(aS (qJ b))/\fc (List.length (qJ b))/\(aD .i64 (bK (pZ b))->aD .i64 eu/\wH (wH (Ty.ok bP mW->bj (aV<=mW.2.1 
 /\mW.2.1<=4/\mW.2.1<=(aS (AE b))/\fc (List.length (AE b))/\(aD .i64 (bK (l6 b))->aD .i64 eV/\fU (ah+1+1+1+1< (↑iI:Int)/\fU (ah+1+1+1+1< (↑iI:Int)/\(Ty.ok bP 
 mV->bj (aV<=mV.2.1/\mV.2.1<=4/\mV.2.1<=(↑(List.length (ny b)):Int)/\List.length (ny b)<=140737488355328/\(aD .i64 (bK (l8 b))->aD .i64 fV/\wI (wI (Ty.ok bP mU->bj (aV 
 <=mU.2.1/\mU.2.1<=4/\mU.2.1<=(↑(List.length (List.drop 4 (ny b))):Int)/\yj b (aD .i64 (bK (rH b))->aD .i64 kU/\wJ (wJ (Ty.ok bP mT->bj (aV<=mT.2.1/\mT.2.1<=4/\mT.2.1 
 <=(↑(List.length (vf b)):Int)/\List.length (vf b)<=140737488355328/\(aD .i64 (bK (yl b))->Gv (Ty.ok bP rK->bj (aV<=rK.2.1/\rK.2.1<=4/\rK.2.1<=(↑(List.length (List.drop 2 (vf b))):Int)/\ 
 List.length (List.drop 2 (vf b))<=140737488355328/\(aD .i64 (bK (yA b))->Gw (Ty.ok bP rM->bj (aV<=rM.2.1/\rM.2.1<=4/\rM.2.1<=(↑(List.length (vC b)):Int)/\List.length (vC b)<= 
 140737488355328/\(aD .i64 (bK (yu b))->yo (br (bK (jf b)==3) (bj (∃ z r,List.drop bH (vC b)=z::r/\cK z<=List.length r/\List.length (List.drop 1 (vC b))<=140737488355328/\(yH z r 
 (aD .i64 0->o8 (bK (jf b),bK (pX b),bK (pV b),bK (pZ b),bK (l6 b),bK (l8 b),bK (rH b),bK (yl b),bK (yA b),bK (yu b),gu (mN z r),())/\Q (SV.cH [S1.agg [.k (qT 
 b),.k (qQ b),.k (qP b),.k (qO b),.k (qS b),.k (qR b),.k (.int .i64 (bK (rH b))),.k (.int .i64 (bK (yl b))),.k (.int .i64 (bK (yA b))),.k (.int .i64 (bK (yu b))),.k (.string (gu (mN 
 z r)))],.c (.k aR)]) [])))) (bj (List.drop bH (vC b)= []/\(aD .i64 0->o8 (bK (jf b),bK (pX b),bK (pV b),bK (pZ b),bK (l6 b),bK (l8 b),bK (rH b),bK (yl b),bK (yA 
 b),bK (yu b),ByteArray.mk #[],())/\Q (SV.cH [S1.agg [.k (qT b),.k (qQ b),.k (qP b),.k (qO b),.k (qS b),.k (qR b),.k (.int .i64 (bK (rH b))),.k (.int .i64 (bK (yl b))),.k (.int .i64 (bK 
 (yA b))),.k (.int .i64 (bK (yu b))),.k lj],.c (.k aR)]) [])))))))))))))))))))))))))))))))))))))))
theorem xO:cu 196 zp:=by
 intro args H Q h;unfold zp at h;split at h;rotate_left;cases h;rename_i cb;split at h;rotate_left;cases h;rename_i b hb;refine Wp.said (args':=[.c (.d Ty.u8 b)]) (λE g=>bm.cr (dH hb) (λ_ h=>h)) ?_;clear hb;refine Wp.dC alg ic ⟨[],[]⟩ Tryz.f196 (BI b) (unr:=[(5,11)]) ?_;unfold BI qJ yj yl yo yu qO qP qQ qR qS qT bj mN yA mT mU mV mW mX mY mZ lj yG yH yJ yL jf yN l6 vC l8 pV wH rH dK pX wI rK wJ rM fU Gv pZ Gw ny eU dR kU eu fV ck cU eV rQ rR aR vf AE ah aV dw cL aS aA fc aJ bH a8 cW iI;obtain ⟨mo,ui,gi,lk,xa,st,sz,fr,off,⟨fq,hk⟩,rfl,h⟩:=h;have e0:bK (aI 1 (ax 2))=2:=ez (by decide) (by decide);have e1:bK (aI 2 (ax mo))=mo:=ez fq.q1.1 (by have:=fq.q1.2;show _< (65536:Int);omega);have e2:bK (aI 2 (ax ui))=ui:=ez fq.q2.1 (by have:=fq.q2.2;show _< (65536:Int);omega);have e3:bK (aI 2 (ax gi))=gi:=ez fq.q3.1 (by have:=fq.q3.2;show _< (65536:Int);omega);have e4:bK (aI 2 (ax lk))=lk:=ez (⟨by have:=fq.q4.1;omega,fq.q4.2⟩:0<=(lk:Int)/\(lk:Int)<=1024).1 (by have:=(⟨by have:=fq.q4.1;omega,fq.q4.2⟩:0<=(lk:Int)/\(lk:Int)<=1024).2;show _< (65536:Int);omega);have e5:bK (aI 4 (ax xa))=xa:=ez fq.q5.1 (by have:=fq.q5.2;show _< (4294967296:Int);omega);have e6:bK (aI 4 (ax st))=st:=ez hk.r1.1 (by have:=hk.r1.2;show _< (4294967296:Int);omega);have e7:bK (aI 2 (ax sz))=sz:=ez hk.r2.1 (by have:=hk.r2.2;show _< (65536:Int);omega);have e8:bK (aI 2 (ax fr))=fr:=ez hk.r3.1 (by have:=hk.r3.2;show _< (65536:Int);omega);have e9:bK (aI 1 (ax off))=off:=ez hk.r4.1 (by have:=hk.r4.2;show _< (256:Int);omega);unfold Za cmB;simp only [aL,iK,iM,L6,NU,e0,e1,e2,e3,e4,e5,e6,e7,e8,e9];refine λ_=>⟨by simp only [af,aE];omega,by trivial,by decide,by decide,by simp only [af,aE];omega,by simp only [af,aE];omega,λ_=>⟨by trivial,by decide,by decide,λ_=>?_⟩⟩;refine ⟨by decide,by decide,by decide,by decide,λ_=>⟨by trivial,by decide,by decide,by show (2:Int)<=_;simp only [af,aE];omega,by simp only [af,aE];omega,λ_=>⟨by unfold aD;decide,?_⟩⟩⟩;refine ⟨by decide,by decide,by decide,by decide,λ_=>⟨by trivial,by decide,by decide,by show (2:Int)<=_;simp only [af,aE];omega,by simp only [af,aE];omega,λ_=>⟨by unfold aD;decide,?_⟩⟩⟩;refine ⟨by decide,by decide,by decide,by decide,λ_=>⟨by trivial,by decide,by decide,by show (2:Int)<=_;simp only [af,aE];omega,by simp only [af,aE];omega,λ_=>⟨by unfold aD;decide,?_⟩⟩⟩;refine ⟨by decide,by decide,by decide,by decide,λ_=>⟨by trivial,by decide,by decide,by show (2:Int)<=_;simp only [af,aE];omega,by simp only [af,aE];omega,λ_=>⟨by unfold aD;decide,?_⟩⟩⟩;refine ⟨by decide,by decide,by decide,by decide,λ_=>⟨by trivial,by decide,by decide,by show (4:Int)<=_;simp only [af,aE];omega,by simp only [af,aE];omega,λ_=>⟨by unfold aD;decide,?_⟩⟩⟩;refine ⟨by decide,by decide,by decide,by decide,λ_=>⟨by trivial,by decide,by decide,by show (4:Int)<=_;simp only [af,aE];omega,by simp only [af,aE];omega,λ_=>⟨by unfold aD;decide,?_⟩⟩⟩;refine ⟨by decide,by decide,by decide,by decide,λ_=>⟨by trivial,by decide,by decide,by show (2:Int)<=_;simp only [af,aE];omega,by simp only [af,aE];omega,λ_=>⟨by unfold aD;decide,?_⟩⟩⟩;refine ⟨by decide,by decide,by decide,by decide,λ_=>⟨by trivial,by decide,by decide,by show (2:Int)<=_;simp only [af,aE];omega,by simp only [af,aE];omega,λ_=>⟨by unfold aD;decide,?_⟩⟩⟩;refine ⟨by decide,by decide,by decide,by decide,λ_=>⟨by trivial,by decide,by decide,by show (1:Int)<=_;simp only [aE];omega,by simp only [aE];omega,λ_=>⟨by unfold aD;decide,?_⟩⟩⟩;refine aq (λhc=>by cases hc) (λ_=>⟨by trivial,by trivial,λ_=>⟨⟨fq,.inr (.inl ⟨rfl,hk,rfl⟩)⟩,h⟩⟩)
def Hq:Ct
 | [.v (.c (.k (.int .i64 k)))],[],Q=>k=3/\Q (.c (.o 0)) [.sl 227 bP (oU 3)]
 | _,_,_=>False
theorem U3:cu 136 Hq:=by
 intro args H Q h;unfold Hq at h;split at h
 .obtain ⟨rfl,h⟩:=h;exact wj _ _ _ h
 grind
def zo:Ct
 | [.v (.c cb)],[],Q=>(match (Ty.sl Ty.u8).of [cb] with
  | some (b,[])=>∃ mo ui gi lk xa tg,(Ec mo ui gi lk xa/\zH tg)/\b=VH mo ui gi lk xa tg/\Q (.cH [.agg [.k (.int .i64 3),.k (.int .i64 mo),.k (.int .i64 ui),.k (.int .i64 gi),.k (.int .i64 lk),.k (.int .i64 xa),.k (.int .i64 0),.k (.int .i64 0),.k (.int .i64 0),.k (.int .i64 0),.k (.string tg)],.c (.k (.int .i64 0))]) []
  | _=>False)
 | _,_,_=>False
def alf:=((((D5.add sg).add wi).add tJ).add xO).add U3
def BH (b:(List (Ty.u8).den)):dx:=λQ=>cU b (yJ b (aD .i64 (bK (jf b))->bK (jf b)=jY/\(120:Nat)<=ck/\jX<=eU/\(yF (Ty.ok bP mS->bj (aV<=mS.2.1/\mS.2.1<=4/\mS.2.1<=(aS (List.drop 1 b))/\ 
 fc (List.length (List.drop 1 b))/\(aD .i64 (bK (pX b))->yK (Ty.ok bP mR->bj (aV<=mR.2.1/\mR.2.1<=4/\mR.2.1<=(aS (rQ b))/\fc (List.length (rQ b))/\(aD .i64 (bK (pV b))->yM 
 (Ty.ok bP mQ->bj (aV<=mQ.2.1/\mQ.2.1<=4/\mQ.2.1<=(aS (qJ b))/\fc (List.length (qJ b))/\(aD .i64 (bK (pZ b))->aD .i64 eu/\wG (wG (Ty.ok bP mP->bj (aV<=mP.2.1 
 /\mP.2.1<=4/\mP.2.1<=(aS (AE b))/\fc (List.length (AE b))/\(aD .i64 (bK (l6 b))->aD .i64 eV/\fU (ah+1+1+1+1< (↑jX:Int)/\fU (ah+1+1+1+1< (↑jX:Int)/\(Ty.ok bP 
 mO->bj (aV<=mO.2.1/\mO.2.1<=4/\mO.2.1<=(↑(List.length (ny b)):Int)/\List.length (ny b)<=140737488355328/\(aD .i64 (bK (l8 b))->aD .i64 fV/\br (bK (jf b)==3) (bj (∃ z r, 
 List.drop cW (ny b)=z::r/\cK z<=List.length r/\yj b (yH z r (aD .i64 0->o8 (bK (jf b),bK (pX b),bK (pV b),bK (pZ b),bK (l6 b),bK (l8 b),ah,ah,ah,ah, 
 gu (mN z r),())/\Q (SV.cH [S1.agg [.k (qT b),.k (qQ b),.k (qP b),.k (qO b),.k (qS b),.k (qR b),.k aR,.k aR,.k aR,.k aR,.k (.string (gu (mN z r)))],.c (.k aR)]) [])))) (bj 
 (List.drop cW (ny b)= []/\(aD .i64 0->o8 (bK (jf b),bK (pX b),bK (pV b),bK (pZ b),bK (l6 b),bK (l8 b),ah,ah,ah,ah,ByteArray.mk #[],())/\Q (SV.cH [S1.agg [.k (qT b), 
 .k (qQ b),.k (qP b),.k (qO b),.k (qS b),.k (qR b),.k aR,.k aR,.k aR,.k aR,.k lj],.c (.k aR)]) []))))))))))))))))))))))))
theorem EZ:cu 196 zo:=by
 intro args H Q h;unfold zo at h;split at h;rotate_left;cases h;rename_i cb;split at h;rotate_left;cases h;rename_i b hb;refine Wp.said (args':=[.c (.d Ty.u8 b)]) (λE g=>bm.cr (dH hb) (λ_ h=>h)) ?_;clear hb;refine Wp.dC alf ic ⟨[],[]⟩ Tryz.f196 (BH b) (unr:=[(5,11)]) ?_;unfold BH qJ yj qO qP qQ qR qS qT bj mN mO mP mQ mR mS lj yF yH yJ yK jf yM l6 l8 pV wG dK pX fU pZ ny eU dR zZ eu fV ck cU eV rQ aR AE ah aV jY cL aS aA fc aJ bH a8 cW jX;obtain ⟨mo,ui,gi,lk,xa,tg,⟨fq,hk⟩,rfl,h⟩:=h;have e0:bK (aI 1 (ax 3))=3:=ez (by decide) (by decide);have e1:bK (aI 2 (ax mo))=mo:=ez fq.q1.1 (by have:=fq.q1.2;omega);have e2:bK (aI 2 (ax ui))=ui:=ez fq.q2.1 (by have:=fq.q2.2;omega);have e3:bK (aI 2 (ax gi))=gi:=ez fq.q3.1 (by have:=fq.q3.2;show _< (65536:Int);omega);have e4:bK (aI 2 (ax lk))=lk:=ez (⟨by have:=fq.q4.1;omega,fq.q4.2⟩:0<=(lk:Int)/\(lk:Int)<=1024).1 (by have:=(⟨by have:=fq.q4.1;omega,fq.q4.2⟩:0<=(lk:Int)/\(lk:Int)<=1024).2;show _< (65536:Int);omega);have e5:bK (aI 4 (ax xa))=xa:=ez fq.q5.1 (by have:=fq.q5.2;show _< (4294967296:Int);omega);have hl:=hk.len;have v8:tg.data.toList.length=tg.size:=(jP tg).symm;have h8:(az tg.size).toNat=tg.size:=UInt8.toNat_ofNat_of_lt' (by show tg.size< 256;omega);unfold VH cmB;simp only [aL,iK,iM,e0,e1,e2,e3,e4,e5];refine λ_=>⟨by simp only [af,aE,av,v8];omega,by trivial,by decide,by decide,by simp only [af,aE,av,v8];omega,by simp only [af,aE,av,v8];omega,λ_=>⟨by trivial,by decide,by decide,λ_=>?_⟩⟩;refine ⟨by decide,by decide,by decide,by decide,λ_=>⟨by trivial,by decide,by decide,by show (2:Int)<=_;simp only [af,aE,av,v8];omega,by simp only [af,aE,av,v8];omega,λ_=>⟨by unfold aD;decide,?_⟩⟩⟩;refine ⟨by decide,by decide,by decide,by decide,λ_=>⟨by trivial,by decide,by decide,by show (2:Int)<=_;simp only [af,aE,av,v8];omega,by simp only [af,aE,av,v8];omega,λ_=>⟨by unfold aD;decide,?_⟩⟩⟩;refine ⟨by decide,by decide,by decide,by decide,λ_=>⟨by trivial,by decide,by decide,by show (2:Int)<=_;simp only [af,aE,av,v8];omega,by simp only [af,aE,av,v8];omega,λ_=>⟨by unfold aD;decide,?_⟩⟩⟩;refine ⟨by decide,by decide,by decide,by decide,λ_=>⟨by trivial,by decide,by decide,by show (2:Int)<=_;simp only [af,aE,av,v8];omega,by simp only [af,aE,av,v8];omega,λ_=>⟨by unfold aD;decide,?_⟩⟩⟩;refine ⟨by decide,by decide,by decide,by decide,λ_=>⟨by trivial,by decide,by decide,by show (4:Int)<=_;simp only [af,aE,av,v8];omega,by simp only [af,aE,av,v8];omega,λ_=>⟨by unfold aD;decide,?_⟩⟩⟩;refine aq (λ_=>⟨by trivial,az tg.size,tg.data.toList,by trivial,by omega,by simp only [av,v8];omega,λ_=>?_⟩) (λhc=>by cases hc);rw [h8,<-v8,eK,List.drop_length,zr];exact ⟨by trivial,by trivial,λ_=>⟨⟨fq,.inr (.inr ⟨rfl,hk,rfl,rfl,rfl,rfl⟩)⟩,h⟩⟩
structure WB (A:Value->Atom) (T:List Int) (R:List UInt8) (fs:List (List UInt8)):Prop where ex:∃ x y,A=jM [.cells 150 [.de (.int .u32) T 0 0,.o 1,.o 2],.sl 5 .u8 x,.sl 5 .u8 y]/\T.length=256/\MW T x y R fs
structure RB (A:Value->Atom) (fs:List (List UInt8)) (R:List UInt8):Prop where ex:∃ T im a c M,A=jM [.cells 245 [.de (.int .u32) T 0 0,.d .u8 im,.k (.int .i64 a),.k (.int .i64 c),.m 1],.map 3 .int ee M]/\T.length=256/\im.length<=100000000/\R.length<=10000000/\iY T im a c fs R M
def A9:Ct
 | [.v (.c (.p 0 0)),.v (.c cb)],[.abs A],Q=>(match (Ty.sl Ty.u8).of [cb] with
  | some (b,[])=>∃ T R fs,WB A T R fs/\R.length+b.length<=10000000/\∀ A' (r:Nat) fs',WB A' T (R++b) (fs++fs')->(∀ gs,r=dX (fs++gs) R.length)->Q (.int r) [.abs A']
  | _=>False)
 | _,_,_=>False
theorem wg:cu 54 A9:=λargs H Q h=>by
 unfold A9 at h;split at h
 .refine Bi _ _ _ ?_;split at h;rotate_left
  .grind
  rename_i b hb;obtain ⟨T,R,fs,⟨x,y,rfl,hT,hm⟩,hl,h⟩:=h;refine ⟨T,x,y,rfl,?_⟩;unfold Ba;simp only [hb];refine ⟨R,fs,hT,hm,hl,λx' y' fs' hm'=>?_⟩;exact h _ (256*x.length+y.length) fs' ⟨_,_,rfl,hT,hm'⟩ (λgs=>hm.ref gs)
 grind
def N5:Ct
 | [.v (.c (.p 0 0))],[.abs A],Q=>∃ T R fs,WB A T R fs/\R.length<=10000000/\∀ A' fs',kM T (fs++fs') R->Q (.c (.d .u8 (fs++fs').flatten)) [.abs A']
 | _,_,_=>False
theorem Bf:cu 55 N5:=λargs H Q h=>by
 unfold N5 at h;split at h
 .refine ET _ _ _ ?_;obtain ⟨T,R,fs,⟨x,y,rfl,hT,hm⟩,hl,h⟩:=h;refine ⟨T,x,y,rfl,?_⟩;refine ⟨R,fs,hT,hm,hl,λfs' hf=>?_⟩;exact h _ fs' hf
 grind
def N9:Ct
 | [.v (.c (.p 0 0)),.v (.c (.k (.int .i64 r))),.v (.c (.k (.int .i64 n)))],[.abs A],Q=>∃ fs R,RB A fs R/\∃ o:Nat,o<=R.length/\r=(dX fs o:Int)/\(0<=n/\n<=10000000)/\∀ A' z nx e,RB A' fs R->py fs R o n.toNat z nx e->Q (.cH [.c (.d .u8 z),.c (.k (.int .i64 nx)),.c (.k (.int .i64 e))]) [.abs A']
 | _,_,_=>False
theorem Kt:cu 147 N9:=λargs H Q h=>by
 unfold N9 at h;split at h
 .refine EU _ _ _ ?_;obtain ⟨fs,R,⟨T,im,a,c,M,rfl,hT,hi,hR,hm⟩,o,ho,hr,hn,h⟩:=h;refine ⟨T,im,a,c,M,rfl,?_⟩;refine ⟨fs,R,hT,hi,hm,o,ho,hR,hr,hn,λz nx e M' hm' hz=>?_⟩;exact h _ z nx e ⟨_,_,_,_,_,rfl,hT,hi,hR,hm'⟩ hz
 grind
def TT:Ct
 | [.v (.c (.de (.int .u32) T 0 0))],[],Q=>T.length=256/\∀ A,WB A T [] []->Q (.c (.p 0 0)) [.abs A]
 | _,_,_=>False
theorem HS:cu 47 TT:=λargs H Q h=>by
 unfold TT at h;split at h
 .refine Kx _ _ _ ?_;exact h.2 _ ⟨[],[],rfl,h.1,MW.nil _⟩
 grind
def Oa:Ct
 | [.v (.c (.de (.int .u32) T 0 0)),.v (.c ci),.v (.c (.k (.int .i64 a))),.v (.c (.k (.int .i64 c)))],[],Q=>(match (Ty.sl Ty.u8).of [ci] with
  | some (im,[])=>(T.length=256/\im.length<=100000000)/\∃ fs R,R.length<=10000000/\iY T im a c fs R []/\∀ A,RB A fs R->Q (.c (.p 0 0)) [.abs A]
  | _=>False)
 | _,_,_=>False
theorem Ku:cu 103 Oa:=λargs H Q h=>by
 unfold Oa at h;split at h
 .split at h;rotate_left
  .grind
  rename_i im hb;obtain ⟨⟨hT,hi⟩,fs,R,hR,hm,h⟩:=h;refine EV _ _ _ ?_;unfold Hn xw;simp only [hb];exact ⟨hi,h _ ⟨_,_,_,_,_,rfl,hT,hi,hR,hm⟩⟩
 grind
def Oi:Ct
 | [.v (.c cb)],[],Q=>(match (Ty.sl Ty.u8).of [cb] with
  | some (b,[])=>∃ i,o8 i/\b=fR i/\Q (.cH [.agg (eC.cells i),.c (.k (.int .i64 0))]) []
  | _=>False)
 | _,_,_=>False
theorem X2:cu 196 Oi:=by
 intro args H Q h;unfold Oi at h;split at h;rotate_left
 .grind
 split at h;rotate_left
 .grind
 rename_i b hb;obtain ⟨⟨k0,mo,ui,gi,lk,xa,st,sz,fr,off,tg,⟨⟩⟩,⟨hc,ho⟩,rfl,h⟩:=h;rcases ho with ⟨e,ho⟩| ⟨e,ho⟩| ⟨e,ho⟩
 .obtain ⟨h1,h2,h3,h4,h5⟩:=ho;subst e h2 h3 h4 h5;refine tJ _ _ _ ?_;unfold zq;simp only [hb];exact ⟨mo,ui,gi,xa,st,sz,⟨hc,h1⟩,rfl,h⟩
 .have h5:tg=⟨#[]⟩:=ho.2;subst e h5;refine xO _ _ _ ?_;unfold zp;simp only [hb];exact ⟨mo,ui,gi,lk,xa,st,sz,fr,off,by grind,rfl,h⟩
 .obtain ⟨h1,h2,h3,h4,h5⟩:=ho;subst e h2 h3 h4 h5;refine EZ _ _ _ ?_;unfold zo;simp only [hb];exact ⟨mo,ui,gi,lk,xa,tg,⟨hc,h1⟩,rfl,h⟩
def abg:Ct:=cP<| cI λr=>cO λH Q=>match H with
 | [.abs A]=>∃ fs R,RB A fs R/\∃ o:Nat,o<=R.length/\r=(dX fs o:Int)/\∃ i q,o8 i/\R.drop o=fR i++q/\∀ A',RB A' fs R->Q (.cH [.agg (eC.cells i),.c (.k (.int .i64 (dX fs (o+(fR i).length):Nat))),.c (.k (.int .i64 0))]) [.abs A']
 | _=>False
def acx:=((((((((((D5.add sg).add wi).add tJ).add xO).add EZ).add wg).add Bf).add Kt).add HS).add Ku).add X2
abbrev PE:=SV.cH [S1.agg [.k aR,.k aR,.k aR,.k aR,.k aR,.k aR,.k aR,.k aR,.k aR,.k aR,.k (.string (ByteArray.mk #[]))],.c (.k aR),.c (.k (.int .i64 2))]
abbrev vy {A1:Type} (y0) (y1:List A1) (y2:Int) (y3) (y4:Int) (R:Prop):=y0<=List.length y1/\y2=(↑(dX y3 y0):Int)/\(0<=y4/\y4<=10000000)/\R
abbrev IA (y0:List UInt8):=aV+(↑(cK (aB Ty.u8 y0 (13:Int))):Int)
abbrev Ir (y0:List UInt8):=(↑(List.length (oU (fS y0))):Int)
def FA (r:Int) (A:Value->Atom):dx:=λQ=>aD .i64 r->∃ fs R,RB A fs R/\∃ o,o<=List.length R/\r=(↑(dX fs o):Int)/\(ah<=(14:Int)/\(14:Int)<=(10000000:Int))/\∀ (A':Value->Atom) (z:List UInt8) (nx e:Int),RB A' fs R->py fs R o (14: 
 Nat) z nx e->db z (cg nx e (br (e !=0) (Q PE [HO.abs A']) (ah<=ah/\ah< (aA z)/\(kx z (List.length (oU (fS z))<=9223372036854775807->aM (λi ag=>br (decide (i.1.1< (Ir z))) (0<=i.1.1/\ 
 i.1.1< (Ir z)/\0<=i.1.1/\i.1.1< (Ir z)/\(Ty.ok bP (aB bP (oU (fS z)) i.1.1)->aD .i64 (i.1.2.1+(aB bP (oU (fS z)) i.1.1).2.1)/\cF i.1.1 (ag ((i.1.1+1,i.1.2.1+(aB bP (oU (fS z)) 
 i.1.1).2.1,()),())))) (cG (λk=>ah<=ah/\ah< (aA z)/\(kx z (br ((fS z)==3) (ah<=(13:Int)/\(13:Int)< (aA z)/\(Ty.ok Ty.u8 (aB Ty.u8 z (13:Int))->aD .i64 (IA z)/\aD .i64 (i.1.2.1+ 
 (IA z))/\k ((i.1.2.1+(IA z),()),()))) (k (i.1.2,()))))) λi=>∃ fs R,RB A' fs R/\∃ o,vy o R r fs i.1.1 (∀ (A':Value->Atom) (z:List UInt8) (nx e:Int),RB A' fs R->py fs R o (aU i.1.1) z nx e->db z 
 (cg nx e (br (e !=0) (Q PE [HO.abs A']) (∃ i,o8 i/\z=fR i/\(cz i.1 i.2.1 i.2.2.1 (cz i.2.2.2.1 i.2.2.2.2.1 i.2.2.2.2.2.1 (cz i.2.2.2.2.2.2.1 i.2.2.2.2.2.2.2.1 i.2.2.2.2.2.2.2.2.1 (aD .i64 i.2.2.2.2.2.2.2.2.2.1-> 
 du i.2.2.2.2.2.2.2.2.2.2.1 (aD .i64 0->Q (SV.cH [S1.agg [.k (aC i.1),.k (aC i.2.1),.k (aC i.2.2.1),.k (aC i.2.2.2.1),.k (aC i.2.2.2.2.1),.k (aC i.2.2.2.2.2.1),.k (aC i.2.2.2.2.2.2.1),.k (aC i.2.2.2.2.2.2.2.1), 
 .k (aC i.2.2.2.2.2.2.2.2.1),.k (aC i.2.2.2.2.2.2.2.2.2.1),.k (.string i.2.2.2.2.2.2.2.2.2.2.1)],.c (.k (aC nx)),.c (.k aR)]) [HO.abs A']))))))))))) ((ah,(13:Int),()),()))))))
theorem KG:cu 148 abg:=eQ<| r5<| nG λr=>r6 λH Q h=>by
 split at h;rotate_left;cases h;rename_i A;refine Wp.dC acx ic ⟨[(7,⟨[(28,.int .i64),(9,.int .i64)],[]⟩)],[(13,⟨[(9,.int .i64)],[]⟩)]⟩ Tryz.f148 (FA r A) ?_;unfold FA Ir kx IA vy PE db du cg cF aU aR cz fS aC ah aV aA aJ;obtain ⟨fs,R,hR,o,ho,rfl,i,q,hi,hd,h⟩:=h;have hl:=congrArg List.length hd;rw [aQ,af] at hl;have hn:=SK hi;have hk:i.1=1\/i.1=2\/i.1=3:=by rcases hi.or with ⟨e,_⟩| ⟨e,_⟩| ⟨e,_⟩;exact .inl e;exact .inr (.inl e);exact .inr (.inr e)
 have h200:i.1=3->0< i.2.2.2.2.2.2.2.2.2.2.1.size/\i.2.2.2.2.2.2.2.2.2.2.1.size<=200:=λe3=>by rcases hi.or with ⟨e,_⟩| ⟨e,_⟩| ⟨e,hL,_⟩;rw [e] at e3;cases e3;rw [e] at e3;cases e3;exact hL.len
 have h15:14<=(fR i).length/\(fR i).length<=214:=by
  rcases hk with e| e| e;rw [hn,if_pos e];decide;rw [hn,if_neg (by rw [e];decide),if_pos e];decide
  .have:=h200 e;rw [hn,if_neg (by rw [e];decide),if_neg (by rw [e];decide)];omega
 refine λ_=>⟨fs,R,hR,o,ho,rfl,⟨by decide,by decide⟩,λA' z nx e hR hz _ _ _=>?_⟩;obtain ⟨rfl,rfl,rfl⟩:=hz.ok (by omega);obtain ⟨t,ht⟩:=MH hi;have GS:((aB .u8 ((R.drop o).take 14) 0).toNat:Int)=i.1:=by
  rw [hd,ht];show ((az i.1.toNat).toNat:Int)=i.1;rcases hk with e| e| e<;>rw [e]<;>rfl
 have apu:i.1=3->((aB .u8 ((R.drop o).take 14) 13).toNat:Int)=i.2.2.2.2.2.2.2.2.2.2.1.size:=λe=>by
  have hlen:=h200 e;have h13:=aeA (i:=i) e;have e2:((R.drop o).take 14)[13]?=some (az i.2.2.2.2.2.2.2.2.2.2.1.size):=by
   rw [List.getElem?_take_of_lt (by decide),hd,bN (by omega),h13]
  unfold aB;rw [ep,show (13:Int).toNat=13 from rfl,e2];show ((az i.2.2.2.2.2.2.2.2.2.2.1.size).toNat:Int)=_;rw [UInt8.toNat_ofNat_of_lt' (by show i.2.2.2.2.2.2.2.2.2.2.1.size< 256;omega)]
 have OR:((R.drop o).take 14).length=14:=by rw [aH,aQ];omega
 refine aq (λhc=>by cases hc) (λ_=>⟨by decide,by omega,λ_ _=>?_⟩);rw [GS,OR];have hB:∀ x∈oU i.1,0<=(x.2.1:Int)/\(x.2.1:Int)<=4:=by rcases hk with e| e| e<;>rw [e]<;>decide
 have hF:(oU i.1).length<=4:=by rcases hk with e| e| e<;>rw [e]<;>decide
 have hS:13+u9 (oU i.1)=if i.1=1 then 21 else if i.1=2 then 22 else 13:=by rcases hk with e| e| e<;>rw [e]<;>rfl
 refine aM.intro (λj=>0<=j.1.1/\j.1.1<=(oU i.1).length/\j.1.2.1=13+u9 ((oU i.1).take j.1.1.toNat)) (λj=>((oU i.1).length - j.1.1).toNat) ⟨bB _,by show (0:Int)<=_;omega,rfl⟩ ?_;rintro ⟨⟨j,n,_⟩,_⟩ ⟨j0,j1,hj⟩;simp only at j0 j1 hj ⊢;subst hj;refine aq (λhc=>?_) (λhc=>?_)
 .have hc:j< ((oU i.1).length:Int):=of_decide_eq_true hc;have h1:=Vg j0 hc;have h2:=Sy (l:=oU i.1) (j+1).toNat hB;rw [Int.add_assoc,<-h1];exact ⟨j0,hc,j0,hc,λ_=>⟨by unfold aD;omega,by unfold aD;omega,⟨by omega,by omega,rfl⟩,by omega⟩⟩
 .have hc:¬j< ((oU i.1).length:Int):=of_decide_eq_false hc;rw [aT (l:=oU i.1) (i:=j.toNat) (by omega),hS];refine cG.intro (λk=>k.1.1=(fR i).length) ⟨by decide,by decide,λ_=>aq (λh3=>?_) (λh3=>?_)⟩ ?_
  .have h3:i.1=3:=eq_of_beq h3;have:=h200 h3;rw [apu h3];refine ⟨by decide,by decide,λ_=>⟨by unfold aD;omega,?_,?_⟩⟩
   .rw [if_neg (by rw [h3];decide),if_neg (by rw [h3];decide)];unfold aD;omega
   .dsimp only;rw [hn,if_neg (by rw [h3];decide),if_neg (by rw [h3];decide),if_neg (by rw [h3];decide),if_neg (by rw [h3];decide)];omega
  .have h3:¬i.1=3:=λe=>by rw [e] at h3;cases h3
   show _=_;rw [hn];rcases hk with e| e| e;rw [if_pos e,if_pos e];rfl;rw [if_neg (by rw [e];decide),if_pos e,if_neg (by rw [e];decide),if_pos e];rfl;exact absurd e h3
  .rintro ⟨⟨n,_⟩,_⟩ hn2;simp only at hn2 ⊢;subst hn2;refine ⟨fs,R,hR,o,ho,rfl,⟨by omega,by omega⟩,λA' z nx e hR hz _ _ _=>?_⟩;rw [bM] at hz;obtain ⟨rfl,rfl,rfl⟩:=hz.ok (by omega);refine aq (λhc=>by cases hc) (λ_=>⟨i,hi,?_,?_⟩)
   .rw [hd,List.take_left]
   .exact λ_ _ _ _ _ _ _ _ _ _ _ _=>h A' hR
end Go.Proofs

namespace Go.LmN
open Go.Lm
open Go Go.RowKit

def JK (a b:ByteArray):Bool:=a.toList==b.toList
section
variable {a b:List ByteArray} {k X:Int}
end

def SD:List ByteArray->List ByteArray->Bool
 | [],[]=>true
 | a::al,b::bs=>JK a b&& SD al bs
 | _,_=>false
section
variable {a b:List ByteArray} {k:Int} {X:Bool}
end
section
variable {a b:List ByteArray} {k:Int} {X:Bool}
end
end Go.LmN
namespace Go.LmN
open Go.Lm
open Go Go.RowKit

def agb (c:UInt8):Bool:=c==0|| c==47
def AN (s:ByteArray) (p:Nat):Bool:=(s.data.toList.drop p).any agb
def akm (s:ByteArray):Bool:=s.toList==(⟨#[]⟩:ByteArray).toList|| (s.toList==(⟨#[46]⟩:ByteArray).toList|| s.toList==(⟨#[46,46]⟩:ByteArray).toList)
def dh (s:ByteArray):Int:=if (s.size:Int)>255 then 23 else if akm s|| AN s 0 then 22 else 0
theorem jQ (s:ByteArray):s.size=s.data.toList.length:=by
 rfl
theorem aaw (s:ByteArray) (p:Nat) (h:p< s.size):s.data.toList[p]'(by rw [<-jQ];exact h)=s[p]:=by
 rfl
theorem Hy (s:ByteArray) (p:Nat) (h:p< s.size):AN s p=(agb s[p]|| AN s (p+1)):=by
 grind [AN, bO, jQ, aaw]
theorem abJ (s:ByteArray) (p:Nat) (h:¬p< s.size):AN s p=false:=by
 grind [AN, eL, jQ]
theorem aax (s:ByteArray) (p:Nat) (h:p< s.size):s.get! p=s[p]:=by
 grind [get_at]
theorem NW (s:ByteArray) (p:Nat) (h:p< s.size) (ha:128<=(s[p]'h).toNat) (k:Nat) (hk:1<=k) (hkw:k< (Utf8.decode s p).2):∃ h':p+k< s.size,128<=(s[p+k]'h').toNat:=by
 have cont:∀ j,(decide (p+j< s.size)&& (s.get! (p+j)).toNat / 64==2)=true->∃ h':p+j< s.size,128<=(s[p+j]'h').toNat:=λj hj=>by
  grind [aax]
 grind [Utf8.decode]
theorem W4 {c:UInt8} (h:128<=c.toNat):agb c=false:=by
 unfold agb;have h0:c≠0:=λe=>by simp_all
 have h1:c≠47:=λe=>by simp_all
 grind
theorem OA (s:ByteArray) (p:Nat):∀ n,(∀ k,k< n->∃ h':p+k< s.size,128<=(s[p+k]'h').toNat)->AN s p=AN s (p+n)
 | 0,_=>rfl
 | n+1,h=>by
  rw [OA s p n λk hk=>h k (by omega)]
  grind [Hy, W4]
theorem QD (s:ByteArray) (p:Nat) (h:p< s.size):1<=(Utf8.decode s p).2:=by
 grind [decode_ascii, decode_high]
theorem W5 (s:ByteArray) (p:Nat) (h:p< s.size):
  AN s p=((((Utf8.decode s p).1:Int)==0|| ((Utf8.decode s p).1:Int)==47)|| AN s (p+(Utf8.decode s p).2)):=by
 by_cases ha:(s[p]'h).toNat< 128
 .rw [decode_ascii s p h ha,Hy s p h];congr 1;have e:∀ m:Nat,m< 256->(s[p]==az m)=(((s[p]).toNat:Int)==(m:Int)):=λm hm=>by
   rw [Bool.eq_iff_iff];simp only [beq_iff_eq,<-UInt8.toNat_inj,UInt8.toNat_ofNat'];omega
  exact congr (congrArg _ (e 0 (by omega))) (e 47 (by omega))
 .have ha':128<=(s[p]'h).toNat:=by omega
  obtain ⟨h1,h2⟩:=decode_high s p h ha';have e0:(((Utf8.decode s p).1:Int)==0)=false:=by grind
  have e1:(((Utf8.decode s p).1:Int)==47)=false:=by grind
  rw [e0,e1]
  grind [OA, NW]
end Go.LmN
namespace Go.LmN
open Go.Lm
open Go Go.RowKit

def aaI (s:ByteArray):Bool:=s.toList==(⟨#[]⟩:ByteArray).toList
def anz (s:ByteArray):Bool:=s.toList==(⟨#[46]⟩:ByteArray).toList
def ak7 (s:ByteArray):Bool:=s.toList==(⟨#[46,46]⟩:ByteArray).toList
section
variable {ps acc:List ByteArray} {dir:Bool} {k:Int} {X:List ByteArray×Bool×Int}
end
end Go.LmN
namespace Go.LmN
open Go.Lm
open Go Go.RowKit

abbrev Row:=List (List UInt8)
def key (a:List ByteArray):Row:=a.map ByteArray.toList
theorem ya:∀ a b:List ByteArray,SD a b=decide (key a=key b)
 | [],[]=>rfl
 | [],_::_=>rfl
 | _::_,[]=>rfl
 | a::al,b::bs=>by
  show (JK a b&& SD al bs)=decide (a.toList::key al=b.toList::key bs);rw [ya al bs];have:JK a b=decide (a.toList=b.toList):=by unfold JK;rw [Bool.eq_iff_iff];simp
  rw [this,Bool.eq_iff_iff];simp
end Go.LmN
namespace Go.LmN
open Go.Lm
open Go Go.RowKit

theorem Nr:∀ {p:List UInt8},(47:UInt8) ∉ p->Lib.index p [47]= -1
 | [],_=>rfl
 | b::p,h=>by
  have hb:(b==47)=false:=by simp only [bz,not_or] at h;simpa using λe=>h.1 e.symm
  have hp:([47]:List UInt8).isPrefixOf (b::p)=false:=by simp [List.isPrefixOf];intro e;exact absurd e.symm (by simpa using hb)
  rw [Lib.index,hp,Nr (λe=>h (aF _ e))];rfl
theorem Jz:∀ {p:List UInt8} (q:List UInt8),(47:UInt8) ∉ p->Lib.index (p++47::q) [47]=(p.length:Nat)
 | [],q,_=>by rw [hU,Lib.index];simp [List.isPrefixOf]
 | b::p,q,h=>by
  have hb:(b==47)=false:=by simp only [bz,not_or] at h;simpa using λe=>h.1 e.symm
  have hp:([47]:List UInt8).isPrefixOf (b::(p++47::q))=false:=by simp [List.isPrefixOf];intro e;exact absurd e.symm (by simpa using hb)
  rw [dV,Lib.index,hp,Jz q (λe=>h (aF _ e))];simp
theorem O7 {p:List UInt8} (h:(47:UInt8) ∉ p):Lib.split p [47]= [p]:=by
 unfold Lib.split;rw [Lib.count_miss (Nr h)];rfl
theorem Vj {p q:List UInt8} (h:(47:UInt8) ∉ p):Lib.split (p++47::q) [47]=p::Lib.split q [47]:=by
 unfold Lib.split;have hd:(p++47::q).drop (p.length+1)=q:=by simp
 rw [Lib.count_hit (by simp) (Jz q h),show p.length+([47]:List UInt8).length=p.length+1 from rfl,hd,Nat.add_comm 1,Lib.splitK,Jz q h,if_neg (by simp)];simp
theorem abL {a b:ByteArray} (h:a.data.toList=b.data.toList):a=b:=by
 cases a with| mk a=>simp_all
theorem J4:∀ {a b:List ByteArray},a.map (·.data.toList)=b.map (·.data.toList)->a=b
 | [],[],_=>rfl
 | [],_::_,h=>by grind
 | _::_,[],h=>by grind
 | x::a,y::b,h=>by
  simp only [cE,List.cons.injEq] at h;rw [abL h.1,J4 h.2]
section
variable {s last:ByteArray} {a k:Int} {acc:List ByteArray} {R:List ByteArray×Bool×Int}
end
theorem aaG (a b:ByteArray):JK a b=(a.data.toList==b.data.toList):=by grind [JK, Lib.toList_data]
theorem NS (s:ByteArray):aaI s=(s.data.toList== []):=aaG s ⟨#[]⟩
end Go.LmN
namespace Go.LmN
open Go.Lm
open Go Go.RowKit

def jn:ByteArray->List ByteArray->ByteArray
 | acc,[]=>acc
 | acc,x::r=>jn (acc++⟨#[47]⟩++x) r
def ix (l:List ByteArray):ByteArray:=if l.length=0 then ⟨#[47]⟩ else jn ⟨#[]⟩ l
def lM (l:List ByteArray):List UInt8:=(l.map λx=>47::x.data.toList).flatten
theorem OB (a b:ByteArray):(a++b).data.toList=a.data.toList++b.data.toList:=by rfl
theorem Ts:∀ (l:List ByteArray) (acc:ByteArray),(jn acc l).data.toList=acc.data.toList++lM l
 | [],acc=>by simp [jn,lM]
 | x::r,acc=>by
  show (jn (acc++⟨#[47]⟩++x) r).data.toList=_;rw [Ts r,OB,OB];simp [lM]
theorem oP (l:List ByteArray):(ix l).data.toList=if l.length=0 then [47] else lM l:=by
 grind [ix, Ts]
theorem xR (l:List ByteArray) (h:l.length≠0):lM l=47::Lib.join (l.map (·.data.toList)) [47]:=by
 cases l with
 | nil=>grind
 | cons x r=>
  rw [cE,Lib.join_cons];have:∀ r:List ByteArray,lM r=Lib.joinTail [47] (r.map (·.data.toList)):=λr=>by simp [lM,Lib.joinTail];rfl
  grind [lM]
theorem yY (l:List ByteArray):(⟨#[47]⟩:ByteArray)++⟨(Lib.join (l.map (·.data.toList)) [47]).toArray⟩=ix l:=by
 apply abL;simp_all [oP, Lib.join_nil, xR]
theorem aoe (a b:ByteArray):(a++b).size=a.size+b.size:=by grind
section
variable {l:List ByteArray} {k:Int} {acc R:ByteArray}
end
theorem Z3 (l:List ByteArray):(Lib.join (l.map (·.data.toList)) [47]).length<=(ix l).size:=by
 grind [yY, jQ]
theorem V5 (l:List ByteArray):(ix l).size=1+(Lib.join (l.map (·.data.toList)) [47]).length:=by
 grind [yY, jQ]
theorem L7 {m:Nat}:∀ l:List ByteArray,(∀ x∈l,x.size<=m)->(lM l).length<=l.length*(m+1)
 | [],_=>by simp [lM]
 | x::r,h=>by
  have h1:=L7 r λy hy=>h y (aF _ hy)
  grind [aK, lM, jQ, gZ]
theorem L8:∀ l:List ByteArray,l.length<=(lM l).length
 | []=>by simp [lM]
 | x::r=>by
  have h1:=L8 r;have:(lM (x::r)).length=1+x.size+(lM r).length:=by simp [lM];omega
  rw [this,av];omega
theorem Z5 {m:Nat} {l:List ByteArray} (h:∀ x∈l,x.size<=m):(ix l).size<=1+l.length*(m+1):=by
 rw [jQ,oP];split;simp;have:=L7 l h;omega
theorem P9 {g w:World} {v:Value} {l:List ByteArray} (h:Is g v l) (hs:bt g w) (hl:l≠ []):
  ∃ bk o c,v= .slice (some ⟨bk,o,none⟩) l.length c/\(∀ (j:Nat) x,l[j]?=some x->w.cell? ⟨bk,o+j,none⟩=some (.string x))/\bk< w.heap.size/\l.length<=c:=by
 rcases dI.1 h with ⟨_,e⟩| ⟨⟨bk,o,sp⟩,cap,hv,hc,_,hx⟩
 .grind
 .obtain ⟨x,r,rfl⟩:=List.exists_cons_of_ne_nil hl;have Dg:sp=none:=by
   obtain ⟨cs,h1,h2,_⟩:=hx 0 x rfl;have k0:=h1 0 (.string x) (by rw [h2];rfl);have e:(Addr.mk bk o sp).add (0*aP.size ByteArray+0)=⟨bk,o,sp⟩:=by rfl
   unfold World.cell? at k0;split at k0
   .simp_all
   grind
  subst Dg;have key:∀ (j:Nat) y,(x::r)[j]?=some y->w.cell? ⟨bk,o+j,none⟩=some (.string y):=λj y hj=>by
   obtain ⟨cs,h1,h2,_⟩:=hx j y hj;have:=h1 0 (.string y) (by grind);have e:(Addr.mk bk o none).add (j*aP.size ByteArray+0)=⟨bk,o+j,none⟩:=by
    simp [Addr.add,aP.size]
   rw [e] at this;exact hs _ _ this
  exact ⟨bk,o,cap,hv,key,World.block_lt_of_cell? w _ (key 0 x rfl),hc⟩
end Go.LmN
namespace Go.LmN
open Go.Lm
open Go Go.RowKit

theorem sh {x:ByteArray} (h:dh x=0):x.size<=255/\aaI x=false/\anz x=false/\ak7 x=false/\(47:UInt8) ∉ x.data.toList:=by
 unfold dh at h;split at h;cases h
 .split at h
  .cases h
  .rename_i hd;simp only [lR,not_or,Bool.not_eq_true] at hd;obtain ⟨h1,h2⟩:=hd;unfold akm at h1;simp only [Bool.or_eq_false_iff] at h1;refine ⟨by omega,h1.1,h1.2.1,h1.2.2,λhm=>?_⟩;unfold AN at h2;rw [pc,List.any_eq_false] at h2;exact absurd (h2 47 hm) (by decide)
theorem va:∀ {l:List (List UInt8)},l≠ []->(∀ x∈l,(47:UInt8) ∉ x)->Lib.split (Lib.join l [47]) [47]=l
 | [],h,_=>absurd rfl h
 | [x],_,h=>by grind [Lib.join_one, O7]
 | x::y::r,_,h=>by
  have e:Lib.join (x::y::r) [47]=x++47::Lib.join (y::r) [47]:=by
   rw [Lib.join_cons,Lib.join_cons];simp [Lib.joinTail]
  rw [e,Vj (h x (by simp)),va (by simp) λz hz=>h z (aF _ hz)]
def abR (l:List ByteArray):Prop:=∀ x∈l,dh x=0
theorem ZY {p q:List ByteArray}:key p=key q↔p=q:=by
 refine ⟨λh=>J4 ?_,by grind⟩
 grind [key, jv, Lib.toList_data]
theorem ZK {p:List ByteArray} (hp:abR p) (h:lM p= [47]):False:=by
 cases p with
 | nil=>trivial
 | cons x r=>
  obtain ⟨_,h1,_⟩:=sh (hp x (by simp))
  grind [NS, lM, List.append_eq_nil_iff]
theorem Z4 {p q:List ByteArray} (hp:abR p) (hq:abR q):((ix p).toList==(ix q).toList)=SD p q:=by
 rw [Lib.toList_data,Lib.toList_data,ya,Bool.eq_iff_iff];simp only [beq_iff_eq,decide_eq_true_eq];rw [ZY];refine ⟨λh=>?_,by grind⟩;rw [oP,oP] at h;by_cases h1:p.length=0
 .by_cases h2:q.length=0
  .grind
  .grind [ZK]
 .by_cases h2:q.length=0
  .grind [ZK]
  .rw [if_neg h2,xR p h1,xR q h2] at h;have f:∀ l:List ByteArray,abR l->∀ x∈l.map (·.data.toList),(47:UInt8) ∉ x:=λl hl x hx=>by
    obtain ⟨y,hy,rfl⟩:=bq.1 hx;exact (sh (hl y hy)).2.2.2.2
   have s1:=va (l:=p.map (·.data.toList)) (by simp_all) (f p hp);have s2:=va (l:=q.map (·.data.toList)) (by simp_all) (f q hq)
   grind [J4]
theorem W7 {l:List ByteArray} (h:abR l) (hl:l.length<=30):(ix l).size<=7681:=by
 have:=Z5 (m:=255) λx hx=>(sh (h x hx)).1;omega
end Go.LmN

namespace Go.Lm
open Go
abbrev cw:Ty:=.pair .str (.pair (.int .i64) (.pair (.int .i64) .unit))
structure OO (last:ByteArray) (x:cw.den):Prop where
 nm:dh x.1=0
 lt:rG last x.1=true
 k:1<=(x.2.1:Int)/\(x.2.1:Int)<=3
 r:0<=(x.2.2.1:Int)/\(x.2.2.1:Int)<=4294967295
def iW:ByteArray->List cw.den->Prop
 | _,[]=>True
 | last,x::r=>OO last x/\iW x.1 r
def xm (x:cw.den):List UInt8:=(az x.1.size::x.1.data.toList)++(aI 1 (x.2.1:Int).toNat++aI 4 (x.2.2.1:Int).toNat)
def gU:List cw.den->List UInt8
 | []=>[]
 | x::r=>xm x++gU r
theorem O3 {z:ByteArray} (h:dh z=0):z.size<=255:=by
 grind [dh]
theorem Dt {last:ByteArray} {x:cw.den} (h:OO last x):6<=(xm x).length/\(xm x).length<=261:=by
 have:=O3 h.nm
 grind [xm, aE, jP]
theorem NR:∀ (l:List cw.den) (x:cw.den),gU (l++ [x])=gU l++xm x
 | [],x=>by show xm x++ []= []++xm x;rw [bd,hU]
 | y::l,x=>by show xm y++gU (l++ [x])=xm y++gU l++xm x;rw [NR l x,aL]
theorem xl:∀ {last:ByteArray} {l:List cw.den},iW last l->(gU l).length<=261*l.length
 | _,[],_=>aG _
 | _,x::r,⟨h1,h2⟩=>by
  have:=Dt h1;have:=xl h2;show (xm x++gU r).length<=261*(r.length+1);rw [af];omega
theorem YM {n:Nat} (h:n<=255):(az n).toNat=n:=by simp; omega
theorem anK {a b:ByteArray} (h:rG b a=true):(!(rG a b|| kT a b))=true:=by
 rw [show (rG a b|| kT a b)= !rG b a from Js a b,h];rfl
theorem Wn (n:ByteArray) (k r:Int) (u:Unit) (l:List cw.den):gU ((n,k,r,u)::l)=az n.size::(n.data.toList++(aI 1 k.toNat++(aI 4 r.toNat++gU l))):=by
 grind [xm, gU]
end Go.Lm

namespace Go.Proofs
open Go Go.Lm Go.RowKit
set_option maxRecDepth 1000000
def xQ:List (Nat×Ty):=(44,cw)::ic
def afF:Ct:=cS λs=>c0 λQ=>Q (.int (dh s)) []
def acw:=acx.add KG
abbrev nr (y0:SV->List HO->Prop):=y0 (.v (.c (.k (.int .i64 22)))) []
abbrev iQ (y0:SV->List HO->Prop):=y0 (.v (.c (.k aR))) []
abbrev qI (y0:ByteArray):=kT y0 (ByteArray.mk #[])
def K0 (s:ByteArray):dx:=λQ=>iR s (br (decide ((gY s)>(255:Int))) (Q (.v (.c (.k (.int .i64 23)))) []) (br (qI s) (nr Q) (br (kT s (ByteArray.mk #[(46:UInt8)])) (nr Q) (br (kT s (ByteArray.mk #[(46:UInt8),(46:UInt8)])) (nr 
 Q) (aM (λi ag=>br (decide (i.2.1.2< ByteArray.size i.2.1.1)) (br ((↑(Utf8.decode i.2.1.1 i.2.1.2).1:Int)==0) (nr Q) (br ((↑(Utf8.decode i.2.1.1 i.2.1.2).1:Int)==47) (nr Q) (ag ((),(i.2.1.1,i.2.1.2+(Utf8.decode 
 i.2.1.1 i.2.1.2).2),())))) (iQ Q)) ((),(s,bx),()))))))
theorem Rb:cu 153 afF:=eQ<| ZA λs=>gM λQ h=>by
 refine Wp.dC acw xQ ⟨[(7,⟨[],[(0,.ab .iter)]⟩)],[]⟩ Tryz.f153 (K0 s) ?_;unfold K0 qI iQ iR nr gY aR bx;intro hs;unfold dh TM at h;refine aq (λh1=>?_) (λh1=>?_)
 .grind
 .have bad:∀ c,(kq s 0|| (kT s ⟨#[]⟩|| (kT s ⟨#[46]⟩|| kT s ⟨#[46,46]⟩)))=c->Q (.int (if c=true then 22 else 0)) []:=by grind
  refine aq (by grind) (λh2=>aq (by grind) (λh3=>aq (by grind) (λh4=>?_)));have ok:∀ c,kq s 0=c->Q (.int (if c=true then 22 else 0)) []:=by grind
  refine aM.intro (λi=>i.2.1.1=s/\kq s i.2.1.2=kq s 0) (λi=>s.size - i.2.1.2) (by grind) ?_;rintro ⟨_,⟨z,p⟩,_⟩ ⟨rfl,hb⟩;simp only at hb ⊢;refine aq (λh5=>?_) (λh5=>?_)
  .have h5:p< z.size:=by grind
   have hr:kq z p=((((Utf8.decode z p).1:Int)==0|| ((Utf8.decode z p).1:Int)==47)|| kq z (p+(Utf8.decode z p).2)):=Go.LmN.W5 z p h5;have hd:=Go.LmN.QD z p h5;refine aq (by grind) (λh6=>aq (by grind) (λh7=>⟨⟨trivial,?_⟩,?_⟩))
   .grind
   .omega
  .have h5:¬p< z.size:=by grind
   exact ok false (by rw [<-hb];exact Go.LmN.abJ z p h5)
def abo:Ct:=cN cw λx=>cS λlast=>c0 λQ=>OO last x/\Q (.bool true) []
def acv:=acw.add Rb
def FJ:((cw).den)->(ByteArray)->dx:=
 λx last Q=>iR x.1 (cg x.2.1 x.2.2.1 (du last (aD .i64 (dh x.1)->br (dh x.1==0) (br (!(rG x.1 last|| kT x.1 last)) (br (decide (x.2.1≥1)) (br (decide (x.2.1<=3)) (br (decide (x.2.2.1≥0)) (Q (.v (.c (.k 
 (.bool (decide (x.2.2.1<=4294967295)))))) []) (bc Q)) (bc Q)) (bc Q)) (bc Q)) (bc Q))))
theorem Ya:cu 178 abo:=eQ<| PT λx=>ZA λlast=>gM λQ h=>by
 refine Wp.dC acv xQ ⟨[],[]⟩ Tryz.f178 (FJ x last) ?_;unfold FJ iR du cg bc iX aJ;obtain ⟨⟨h1,h2,⟨k1,k2⟩,r1,r2⟩,h⟩:=h
 grind [anK, aq]
def Ox:Ct:=cD cw λl=>c0 λQ=>(iW ⟨#[]⟩ l/\l.length<=1024)/\Q (.cH [.c (.d .u8 (gU l)),.c (.k (.int .i64 0))]) []
def acu:=acv.add Ya
abbrev Gs (y0) (y1) (y2:SV->List HO->Prop):=y0=ah/\List.length y1<=100000000000/\(aJ (bw y1)->aD .i64 0->y2 (SV.cH [S1.c (Cl.d Ty.u8 y1),.c (.k aR)]) [])
abbrev ij (y0:List (cw).den) (y1):=aB cw y0 y1
def FL (l:(List (cw).den)):dx:=λQ=>List.length l<=9223372036854775807->aJ (List.length l)->aM (λi ag=>br (decide (i.1.1< (aA l))) (0<=i.1.1/\i.1.1< (aA l)/\(Ty.ok cw (ij l i.1.1)->OO i.1.2.1 (ij l i.1.1)/\i.2.1.1=ah/\ 
 ByteArray.size (ij l i.1.1).1<=255/\List.length i.2.1.2.1<=1000000000/\pJ ((ah<=(ij l i.1.1).2.1/\(ij l i.1.1).2.1< 256 ^ bH)/\List.length (i.2.1.2.1++az (ByteArray.size (ij l i.1.1).1):: 
 (ij l i.1.1).1.data.toList)<=100000000000/\bj ((aV<=cL/\cL<=cL)/\(ah<=(ij l i.1.1).2.2.1/\(ij l i.1.1).2.2.1< 256 ^ cW)/\List.length (i.2.1.2.1++az (ByteArray.size (ij l i.1.1).1) 
 ::(ij l i.1.1).1.data.toList++aI bH (ax (ij l i.1.1).2.1))<=100000000000/\cF i.1.1 (ag ((i.1.1+1,(ij l i.1.1).1,()),(ah,i.2.1.2.1++az (ByteArray.size (ij l i.1.1).1)::(ij l 
 i.1.1).1.data.toList++aI bH (ax (ij l i.1.1).2.1)++aI cW (ax (ij l i.1.1).2.2.1),()),())))))) (Gs i.2.1.1 i.2.1.2.1 Q)) ((ah,ByteArray.mk #[],()),(ah,[],()),())
theorem KU:cu 130 Ox:=eQ<| jm λl=>gM λQ h=>by
 refine Wp.kC [some (.sl .u8),none] [] ?_;refine Wp.dC acu xQ ⟨[(5,⟨[(10,.int .i64),(5,.str)],[(0,.cells 174 [.int .i64,.own 5 .u8])]⟩)],[]⟩ Tryz.f130 (FL l) ?_;unfold FL ij bj pJ Gs cF bw aR ah aV cL aA aJ bH cW;obtain ⟨⟨hl,hn⟩,h⟩:=h;refine λ_ _=>aM.intro (λi=>(0<=i.1.1/\i.1.1<=l.length)/\iW i.1.2.1 (l.drop i.1.1.toNat)/\i.2.1.1=0/\i.2.1.2.1=gU (l.take i.1.1.toNat)/\i.2.1.2.1.length<=261*i.1.1.toNat) (λi=>(l.length - i.1.1).toNat) ⟨by grind,hl,rfl,rfl,aG _⟩ ?_;rintro ⟨⟨j,last,_⟩,⟨c,x,_⟩,_⟩ ⟨⟨j0,j1⟩,h1,h2,h3,h4⟩;simp only at j0 j1 h1 h2 h3 h4 ⊢;refine aq (λhc=>?_) (λhc=>?_)
 .have hc:j< (l.length:Int):=of_decide_eq_true hc;have ht:=ixT (e:=cw) j0 hc;rw [ixR (e:=cw) j0 hc] at h1;obtain ⟨y,hy⟩:∃ y,aB cw l j=y:=⟨_,rfl⟩;rw [hy] at h1 ht ⊢;obtain ⟨he,h1⟩:=h1;have hle:=Dt he;have hz:=O3 he.nm;have e:gU (l.take (j+1).toNat)=x++xm y:=by grind [NR]
  obtain ⟨n,k,r,u⟩:=y;obtain ⟨k0,k1⟩:=he.k;obtain ⟨r0,r1⟩:=he.r;have e2:x++az n.size::n.data.toList++aI 1 k.toNat++aI 4 r.toNat=gU (l.take (j+1).toNat):=by grind [xm]
  grind [aD]
 .have hc:¬j< (l.length:Int):=of_decide_eq_false hc;rw [aT (by omega)] at h3;subst h3;exact ⟨by trivial,by omega,λ_ _=>⟨aG _,h⟩⟩
def WT:Ct:=cD .u8 λb=>c0 λQ=>(∃ l,iW ⟨#[]⟩ l/\l.length<=1024/\b=gU l/\Q (.cH [.c (.d cw l),.c (.k (.int .i64 0))]) [])
def acs:=acu.add KU
abbrev MP (y0) (y1):=(gu (List.take (cK y0) y1),bK (List.take bH (List.drop (cK y0) y1)),bK (List.take cW (List.drop 1 (List.drop (cK y0) y1))),())
abbrev sQ {A1:Type} (y0) (y1:List A1):=List.drop (cK y0) y1
def BL (b:(List (Ty.u8).den)):dx:=λQ=>cU b (fc (dy b)/\aM (λi ag=>i.2.1.1=ah/\(aD .i64 (aS i.2.1.2.1)->br (decide ((aS i.2.1.2.1)>ah)) (bj (∃ z r,i.2.1.2.1=z::r/\cK z<=List.length r/\fc (bw i.2.1.2.1)/\ 
 (aJ (ByteArray.size (gu (mN z r)))->bj (aV<=aV/\aV<=cL/\aV<=(aS (sQ z r))/\fc (List.length (sQ z r))/\(aD .i64 (bK (List.take bH (sQ z r)))->bj (aV<=cL/\cL<=cL/\ 
 cL<=(aS (List.drop 1 (sQ z r)))/\fc (List.length (List.drop 1 (sQ z r)))/\(aD .i64 (bK (List.take cW (List.drop 1 (sQ z r))))->aD .i64 0->OO i.1.2.1 (MP z r)/\(List.length i.1.1+List.length [(MP z 
 r)])*32<=140737488355328/\List.length i.1.1+List.length [(MP z r)]<=9223372036854775807/\ag ((i.1.1++ [(MP z r)],gu (mN z r),()),(ah,List.drop cW (List.drop 1 (sQ z r)),()),())))))))) (Q ll [.sl 44 
 cw i.1.1]))) (([],ByteArray.mk #[],()),(ah,b,()),()))
theorem E9:cu 151 WT:=eQ<| jm λb=>gM λQ h=>by
 refine Wp.kC [some (.sl cw),none] [0] ?_;refine Wp.dC acs xQ ⟨[(5,⟨[(5,.own 44 cw),(6,.str)],[(0,.cells 187 [.int .i64,.d .u8])]⟩)],[]⟩ Tryz.f151 (BL b) ?_;unfold BL bj sQ mN dy ll MP bw cU aR ah aV cL aS fc aJ bH cW;obtain ⟨l,hl,hn,rfl,h⟩:=h;have hbl:=xl hl;refine λ_=>⟨by omega,aM.intro (λi=>∃ j,j<=l.length/\i.1.1=l.take j/\iW i.1.2.1 (l.drop j)/\i.2.1.1=0/\i.2.1.2.1=gU (l.drop j)) (λi=>i.2.1.2.1.length) ⟨0,cY _,rfl,hl,rfl,rfl⟩ ?_⟩;rintro ⟨⟨o,last,_⟩,⟨c,x,_⟩,_⟩ ⟨j,j1,h1,h2,h3,h4⟩;simp only at j1 h1 h2 h3 h4 ⊢;subst h1 h3 h4;have hj:(l.take j).length=j:=by rw [aH];omega
 refine ⟨by trivial,λ_=>?_⟩;rcases eW j l.length with fD| hge
 .rw [bO fD] at h2 ⊢;have Qm:=xl h2;simp only [av,aQ] at Qm;obtain ⟨y,hy⟩:∃ y,l[j]=y:=⟨_,rfl⟩;have ht:l.take j++ [y]=l.take (j+1):=by rw [bG fD,hy]
  rw [hy] at h2 Qm ⊢;obtain ⟨he,h2⟩:=h2;have hle:=Dt he;have hz:=O3 he.nm;obtain ⟨n,k,r,⟨⟩⟩:=y;obtain ⟨k0,k1⟩:=he.k;obtain ⟨r0,r1⟩:=he.r;have hu:=YM hz;have hs:n.data.toList.length=n.size:=(jP n).symm;have e1:bK (aI 1 k.toNat)=k:=ez (Int.le_trans (by decide) k0) (Int.lt_of_le_of_lt k1 (by decide));have e4:bK (aI 4 r.toNat)=r:=ez r0 (Int.lt_of_le_of_lt r1 (by decide));rw [Wn] at Qm ⊢;simp only [av,af,aE] at Qm;refine aq (λ_=>⟨by trivial,_,_,rfl,?_⟩) (λhc=>absurd (of_decide_eq_false hc) (by simp only [av];omega));rw [hu,List.take_left' hs,List.drop_left' hs,iK,iM,iK,iM,e1,e4,zr];refine ⟨by simp only [af];omega,by simp only [av,af,aE];omega,λ_=>⟨by trivial,by decide,by decide,by simp only [af,aE];omega,by simp only [af,aE];omega,λ_=>⟨by trivial,by decide,by decide,by simp only [af,aE];omega,by simp only [af,aE];omega,λ_ _=>⟨he,by rw [hj,ay];omega,by rw [hj,ay];omega,⟨j+1,fD,ht,h2,by trivial,by trivial⟩,?_⟩⟩⟩⟩;simp only [av,af,aE];omega
 .rw [List.drop_of_length_le hge,aT hge];exact aq (λhc=>by cases hc) (λ_=>⟨cY _,h⟩)
end Go.Proofs

namespace Go.Lm
open Go Go.RowKit Go.Maps Go.WideShapes
section
variable {W:cX} {g w w':World} {l:List Atom} {et:TypeId} {size n:Nat} {v:Value} {xs:List Value}
theorem SL.fresh (H:SL W g w l) (e:Le w w') (ho:w'.ownsRow w.heap.size et size v n xs):SL W g w' (uA et size v n xs::l):=by
 obtain ⟨hl,⟨rfl,rfl⟩| ⟨k,cap,cur,rfl,hk,hb,r⟩⟩:=ho
 .have:xs= []:=bA (by simpa using hl);subst this;exact (H.le e).Y8 et size
 .obtain ⟨h,be,s,ow,t⟩:=H;have hkn:h k=none:=by
   cases hx:h k with
   | none=>rfl
   | some x=>have:=xA (ow k x hx).2.1;omega
  have hni:tG g k:=λa ha=>by
   cases hc:g.cell? a with
   | none=>rfl
   | some x=>
    have h1:=World.block_lt_of_cell? w a (s.mono a x hc);omega
  refine ⟨Hp.join (λj=>if j=k then some (.cells cur et (0,0)) else none) h,e.QY be,s.le e,λj x hx=>?_,_,h,λj=>?_,rfl,⟨hl,.inr ⟨k,cap,cur,rfl,if_pos rfl,r⟩⟩,t⟩
  .unfold Hp.join at hx;by_cases q:j=k
   .subst q;simp at hx;subst hx;exact ⟨Nat.le_trans be.size hk,hb,hni⟩
   .simp [q] at hx;obtain ⟨o1,o2,o3⟩:=ow j x hx;exact ⟨o1,e.jB o2,o3⟩
  .by_cases q:j=k
   .subst q;exact .inr hkn
   .left;simp [q]
end
section
variable {P:Program} {I:cX->Prop} {f fk:FuncId} {Q:SV->List HO->Prop} {T:UTy} {q1 q2 nx:Int} {mb:Nat} {L:List (Int×rZ)}
end
end Go.Lm

namespace Go.Proofs
open Go Go.RowKit Go.Maps Go.Sort Go.Shelf Go.Lm
set_option maxRecDepth 1000000
def Tryz.GO:Go.Shelf.Ren:=⟨fun| 7=>74| 10=>126| n=>n,fun| 23=>151| 26=>3| 3=>4| 28=>154| 0=>0| 27=>153| 33=>170| 4=>4| n=>n,fun| n=>n⟩
theorem Tryz.amX:Go.Proofs.SlLaysZI.n7 bQ Tryz.GO:= {
 mixed:=by kernel_rfl
 f7:=⟨"maps.Keys[map[int]bool,int,bool]",by kernel_rfl,Tryz.func74.trans (congrArg some (by kernel_rfl))⟩
 f10:=⟨"maps.Keys[map[int]bool,int,bool]$1",by kernel_rfl,Tryz.func126.trans (congrArg some (by kernel_rfl))⟩
 t0:=Tryz.underlying0
 a0:=Tryz.isAgg0
 z0:=Tryz.sizeOf0
 v0:=Tryz.zeroValue0
 t4:=Tryz.underlying4
 a4:=Tryz.isAgg4
 z4:=Tryz.sizeOf4
 v4:=Tryz.zeroValue4
 t23:=Tryz.underlying151
 a23:=Tryz.isAgg151
 z23:=Tryz.sizeOf151
 v23:=Tryz.zeroValue151
 t26:=Tryz.underlying3
 a26:=Tryz.isAgg3
 z26:=Tryz.sizeOf3
 v26:=Tryz.zeroValue3
 t27:=Tryz.underlying153
 a27:=Tryz.isAgg153
 z27:=Tryz.sizeOf153
 v27:=Tryz.zeroValue153
 t28:=Tryz.underlying154
 a28:=Tryz.isAgg154
 z28:=Tryz.sizeOf154
 v28:=Tryz.zeroValue154
 t33:=Tryz.underlying170
 a33:=Tryz.isAgg170
 z33:=Tryz.sizeOf170
 v33:=Tryz.zeroValue170}
def Tryz.BZ:Go.Shelf.Ren:=⟨fun| 6=>73| 8=>124| 9=>125| 11=>171| n=>n,fun| 26=>3| 28=>154| 24=>29| 0=>0| 3=>4| 4=>4| 33=>170| n=>n,fun| n=>n⟩
theorem Tryz.aja:Go.Proofs.SlLaysZI.n6 bQ Tryz.BZ:= {
 mixed:=by kernel_rfl
 f6:=⟨"slices.Sorted[int]",by kernel_rfl,Tryz.func73.trans (congrArg some (by kernel_rfl))⟩
 f8:=⟨"slices.Collect[int]",by kernel_rfl,Tryz.func124.trans (congrArg some (by kernel_rfl))⟩
 f11:=⟨"slices.AppendSeq[[]int,int]",by kernel_rfl,Tryz.func171.trans (congrArg some (by kernel_rfl))⟩
 t0:=Tryz.underlying0
 a0:=Tryz.isAgg0
 z0:=Tryz.sizeOf0
 v0:=Tryz.zeroValue0
 t24:=Tryz.underlying29
 a24:=Tryz.isAgg29
 z24:=Tryz.sizeOf29
 v24:=Tryz.zeroValue29
 t26:=Tryz.underlying3
 a26:=Tryz.isAgg3
 z26:=Tryz.sizeOf3
 v26:=Tryz.zeroValue3
 t28:=Tryz.underlying154
 a28:=Tryz.isAgg154
 z28:=Tryz.sizeOf154
 v28:=Tryz.zeroValue154
 i26:=by kernel_rfl}
theorem aen (m:Nat):AnyZI.SortsIn bQ Tryz.BZ Fence.wide m:=
  ⟨λpd off cap ss W hH hblk mC=>callsIn_wide.2 (Tryz.slices_Sort_int pd off cap ss W hH hblk mC),
   λp cap W=>callsIn_wide.2 (Tryz.slices_Sort_int_none p cap W)⟩
theorem amW (w:World) (u ib:Nat) (D0:DataW Value) (hu:u< w.heap.size) (hc:w.cell? ⟨u,0,none⟩=some (.map (some ib))) (ho:w.ownsMap bQ 3 eM ib (Maps.size D0) D0) (hs:Maps.size D0<=1099511627776):
  Calls bQ 73 #[.func (.func 126) #[] #[.pointer (some ⟨u,0,none⟩)]] w λe w'=>∃ (v:Value) (ss:List Int),e= .returned v/\ss.Perm (intKeys D0)/\w'.ownsRow w.heap.size 3 1 v ss.length ((ss.mergeSort λx y=>decide (x<=y)).map encZ)/\Below w.heap.size w w':=by
 refine (callsIn_wide (n:=5)).1 ?_;have apE:SeqGives Fence.wide 2 bQ 126 #[.pointer (some ⟨u,0,none⟩)] encZ (λss=>ss.Perm (intKeys D0)) (Maps.size D0) w:=
  AnyZI.keys_gives (ρ:=Tryz.GO) {Tryz.amX with} Fence.wide _ trivial rfl (by omega) u ib _ D0 _ hu hc ho
 have cS:=AnyZI.sorted_in Tryz.aja Fence.wide 5 trivial trivial trivial trivial rfl (by omega) (aen _) (enters_of Tryz.func125 (by kernel_rfl) rfl) 126 #[.pointer (some ⟨u,0,none⟩)] trivial (enters_of Tryz.func126 (by kernel_rfl) rfl) _ _ (by unfold maxLen;omega) (by omega) _ apE;exact cS.mono λe w' ⟨v,ss,h1,h2,h3,_,h4⟩=>⟨v,ss,h1,h2,h3,h4⟩
end Go.Proofs

namespace Go.Lm
open Go Go.RowKit Go.Maps Go.WideShapes
structure xE (xs ks:List Int):Prop where
 perm:xs.Perm ks
 Xk:xs.Pairwise λa b=>a<=b
theorem Mc {ks ss:List Int} (h:ss.Perm ks):xE (ss.mergeSort λx y=>decide (x<=y)) ks:=by
 refine ⟨(List.mergeSort_perm ss _).trans h,?_⟩;have h1:(ss.mergeSort λx y=>decide (x<=y)).Pairwise λx y=>decide (x<=y)=true:=List.pairwise_mergeSort (le:=λx y:Int=>decide (x<=y)) (λa b c h1 h2=>by
   simp only [decide_eq_true_eq] at h1 h2 ⊢;exact Int.le_trans h1 h2) (λa b=>by
   simp only [lR,decide_eq_true_eq];exact Int.le_total a b) ss
 exact h1.imp λh2=>by simpa using h2
theorem Tw (g:World):∀ (l:List Int),(∀ s∈l,(Lit.int .i64 s).wf=true)->eG (α:=(Ty.int .i64).den) g (l.map λs=>[Value.int .i64 s]) l
 | [],_=>trivial
 | s::l,h=>⟨⟨rfl,h s (by simp)⟩,Tw g l λx hx=>h x (by simp [hx])⟩
theorem C4 {g:World} {k:Kk} {e:Ty}:∀ {l:List (k.den×Value)} {xs:List (k.den×e.den)},rY g k e l xs->xs.map (·.1)=l.map (·.1)
 | [],_,h=>by rw [show _= [] from h];rfl
 | p::l,_,⟨x,r,h1,_,h3⟩=>by rw [h1,cE,cE,C4 h3]
section
variable {P:Program} {I:cX->Prop} {f fk:FuncId} {Q:SV->List HO->Prop}
theorem Wp.O8 {tK tM:TypeId} {e:Ty} {xs:List (Int×e.den)} (hkT:P.underlying tK=some (.int .i64))
  (hC:∀ (w:World) (u ib:Nat) (D0:DataW Value),u< w.heap.size->w.cell? ⟨u,0,none⟩=some (.map (some ib))->w.ownsMap P tK eM ib (Maps.size D0) D0->Maps.size D0<=1099511627776->
   Calls P f #[.func (.func fk) #[] #[.pointer (some ⟨u,0,none⟩)]] w λe w'=>∃ (v:Value) (ss:List Int),e= .returned v/\ss.Perm (intKeys D0)/\w'.ownsRow w.heap.size tK 1 v ss.length ((ss.mergeSort λx y=>decide (x<=y)).map encZ)/\Below w.heap.size w w')
  (hen:xs.length<=1099511627776)
  (hq:∀ ys,xE ys (xs.map (·.1))->Q (.c (.o 2)) [.cells tM [.m 1],.map tK .int e xs,.sl tK (.int .i64) ys]):
  Wp I P f [.v (.c (.fn fk [.p 0 0]))] [.cells tM [.m 1],.map tK .int e xs] Q:=by
 intro W hW g w E F vs S Ef;obtain ⟨a,rfl,us,⟨_,uV,rfl,hu,ae9⟩,rfl⟩:=tS Ef;obtain ⟨h0,be,se,ow,k1,k2,ap,rfl,⟨b,us,hE,hrel,hb⟩,k3,k4,ap2,rfl,⟨mb,m,hE1,hms,P',hkk,aal⟩,s3⟩:=S.sl;have aal:(mapA P tK mb m).sat g k3:=Jp (k:=.int) hkk (by unfold jT;rw [hkT]) aal;obtain ⟨es,clock,e2,rep⟩:=aal;obtain ⟨_,us2,rfl,⟨OQ,hE2,rfl⟩,Xn⟩:=hrel;obtain rfl:us2= []:=Xn;obtain rfl:uV= []:=ae9;have hmm:OQ=mb:=by rw [hE1] at hE2;simpa [ptr] using hE2.symm
 subst hmm;obtain ⟨b',hE',rfl⟩:=hu;rw [hE] at hE';obtain rfl:b=b':=by simpa [ptr] using hE'
 have hbb:w.heap[b]?=some (.cells #[.map (some OQ)] tM (0,0)):=by
  have a1:=Hp.eO.1 ap;exact (ow b _ (Hp.fQ hb)).2.1
 have hmb:w.heap[OQ]?=some (.map es clock):=by
  refine (ow OQ _ ?_).2.1;rw [Hp.mc ?_];exact Hp.fQ e2
  .rcases (Hp.eO.1 ap).1 OQ with q| q
   .exact q
   .rw [e2] at q;cases q
 have hxm:xs.map (·.1)=m.map (·.1):=C4 (k:=.int) hms;have Am:∀ z∈m.map (·.1),(Lit.int .i64 z).wf=true:=λz hz=>by
  obtain ⟨p,hp,rfl⟩:=bq.1 hz;have h1:k8 p∈es.toList.map (Go.WideElems.rg P tK eM):=rep.perm.mem_iff.2 (bq.2 ⟨p,hp,rfl⟩);obtain ⟨x,hx,hxe⟩:=bq.1 h1;obtain ⟨kl,NA,yZ⟩:=mK rep.fit hx;rw [yZ] at hxe;have:kl=dN.lit p.1:=congrArg Prod.fst hxe;subst this;exact ((w8 hkT).inv _ _ NA).2
 have mC:es.size=m.length:=rep.size;have hlm:m.length=xs.length:=by have:=congrArg List.length hxm;simpa using this.symm
 have hD:Maps.size (H:=Value) (.map ((es.toList.map (Go.WideElems.rg P tK eM)).foldr DataW.insert []))=m.length:=by
  show ((es.toList.map (Go.WideElems.rg P tK eM)).foldr DataW.insert []).length=_;rw [(sorted_perm _).length_eq,bR];simpa using mC
 have Qp:w.cell? ⟨b,0,none⟩=some (.map (some OQ)):=by
  simp [World.cell?,hbb]
 refine (hC w b OQ _ (xA hbb) Qp ⟨es,clock,hmb,rep.fit,?_,rfl⟩ ?_).mono λe w' ⟨v',ss,he,hp,tm,aqz⟩=>?_;rw [hD];omega;rw [hD];omega;have hp2:ss.Perm (xs.map (·.1)):=by
  refine hp.trans ?_;have h1:=((sorted_perm (H:=Value) (es.toList.map (Go.WideElems.rg P tK eM))).trans rep.perm).map λp=>Go.intOf p.1;refine h1.trans (List.Perm.of_eq ?_);rw [List.map_map,hxm];rfl
 have agP:=Mc hp2;have hlen:(ss.mergeSort λx y=>decide (x<=y)).length=ss.length:=(List.mergeSort_perm ss _).length_eq;refine ⟨v',he,E++ [v'],g,.c (.o 2),_,bu.app _ _,bt.refl g,Sat.push (o:=.sl tK (.int .i64) (ss.mergeSort λx y=>decide (x<=y))) S.len ?_,?_,hq _ agP⟩
 .refine (S.sl.fresh aqz tm).cJ λhh ⟨p1,p2,ap3,q3,sr,sF⟩=>⟨p1,p2,ap3,q3,⟨v',by rw [<-S.len];simp,(ss.mergeSort λx y=>decide (x<=y)).map (λs=>[Value.int .i64 s]),?_,?_⟩,sF⟩
  .exact Tw g _ λs hs=>Am s (by rw [<-hxm];exact agP.perm.mem_iff.1 hs)
  .show (uA tK 1 v' (ss.mergeSort λx y=>decide (x<=y)).length _).sat g p1;rw [hlen];have e3:((ss.mergeSort λx y=>decide (x<=y)).map (λs=>[Value.int .i64 s])).flatten=(ss.mergeSort λx y=>decide (x<=y)).map encZ:=by
    induction (ss.mergeSort λx y=>decide (x<=y)) with
    | nil=>rfl
    | cons x l ih=>rw [cE,dD,ih];rfl
   rw [e3];exact sr
 .refine ⟨by rw [show (2:Nat)=E.length from S.len.symm];simp,?_⟩;rcases tm.2 with ⟨rfl,_⟩| ⟨k,cap,cur,rfl,_⟩
  .exact ⟨_,_,_,rfl⟩
  .exact ⟨_,_,_,rfl⟩
end
end Go.Lm

namespace Go.Lm
open Go
def uW (n:noTy.den):Int:=n.2.2.2.1.2.1
def zd (n:noTy.den):Int:=n.2.2.2.1.2.2.1
structure ON (l:List noTy.den) (ys:List Int):Prop where
 Xk:ys.Pairwise (· < ·)
 mem:∀ y,y∈ys↔∃ n∈l,y=uW n\/y=zd n
 len:ys.length<=2*l.length
structure Xi (l:List noTy.den) (M:List (Int×Bool)):Prop where
 nd:(M.map (·.1)).Nodup
 mem:∀ y,y∈M.map (·.1)↔∃ n∈l,y=uW n\/y=zd n
 len:M.length<=2*l.length
def gA (n:Nat) (l:List Int):List UInt8:=l.flatMap λx=>aI n x.toNat
theorem jR (n:Nat):∀ l:List Int,(gA n l).length=n*l.length
 | []=>by simp [gA]
 | x::l=>by
  have:=jR n l;unfold gA at*;rw [jA,af,aE,this,av,Nat.mul_succ];omega
theorem VO (n:Nat) (l:List Int) (x:Int):gA n (l++ [x])=gA n l++aI n x.toNat:=by
 unfold gA;rw [ia];simp
theorem CS (M:List (Int×Bool)) (k:Int) (v:Bool):(Kk.put .int M k v:List (Int×Bool)).map (·.1)=k::(M.map (·.1)).filter (λx=> !decide (x=k)):=by
 show k::(List.map (·.1) (List.filter (λp:Int×Bool=> !decide (p.1=k)) M))=_;congr 1;rw [List.filter_map];rfl
theorem Zo {M:List (Int×Bool)} (h:(M.map (·.1)).Nodup) (k:Int) (v:Bool):((Kk.put .int M k v:List (Int×Bool)).map (·.1)).Nodup:=by
 rw [CS];exact gj.2 ⟨by simp,h.filter _⟩
theorem SS (M:List (Int×Bool)) (k:Int) (v:Bool) (y:Int):y∈(Kk.put .int M k v:List (Int×Bool)).map (·.1)↔y=k\/y∈M.map (·.1):=by
 rw [CS,bz,gk];by_cases e:y=k;simp [e];simp [e]
theorem CR (M:List (Int×Bool)) (k:Int) (v:Bool):(Kk.put .int M k v:List (Int×Bool)).length<=M.length+1:=by
 have:=congrArg List.length (CS M k v);rw [bR,av] at this;rw [this];have:=List.length_filter_le (λx=> !decide (x=k)) (M.map (·.1));rw [bR] at this;omega
theorem Xi.step {l:List noTy.den} {M:List (Int×Bool)} (h:Xi l M) (n:noTy.den):Xi (l++ [n]) (Kk.put .int (Kk.put .int M (uW n) true:List (Int×Bool)) (zd n) true):=by
 refine ⟨Zo (Zo h.nd _ _) _ _,λy=>?_,?_⟩
 .rw [SS,SS,h.mem];constructor
  .rintro (e| e| ⟨m,hm,e⟩)
   .exact ⟨n,by simp,.inr e⟩
   .exact ⟨n,by simp,.inl e⟩
   .exact ⟨m,by simp [hm],e⟩
  .rintro ⟨m,hm,e⟩;rcases aX.1 hm with hm| hm
   .exact .inr (.inr ⟨m,hm,e⟩)
   .obtain rfl:m=n:=by simpa using hm
    rcases e with e| e;exact .inr (.inl e);exact .inl e
 .have h1:=CR (Kk.put .int M (uW n) true:List (Int×Bool)) (zd n) true;have h2:=CR M (uW n) true;have h3:=h.len;rw [af,ay];omega
theorem Xi.ids {l:List noTy.den} {M:List (Int×Bool)} (h:Xi l M) {ys:List Int} (hs:xE ys (M.map (·.1))):ON l ys:=by
 refine ⟨?_,λy=>by rw [hs.perm.mem_iff];exact h.mem y,by rw [hs.perm.length_eq,bR];exact h.len⟩;have hn:ys.Nodup:=hs.perm.nodup_iff.2 h.nd;refine List.Pairwise.imp₂ (λa b h1 h2=>?_) hs.Xk hn;have h1:a<=b:=h1;have h2:a≠b:=h2;omega
theorem api (fs:List (List UInt8)):(0:Int)=(dX fs 0:Nat):=by unfold dX;simp
theorem PV (n:Nat) {l:List Int} {j:Nat} (h:j< l.length):((gA n l).drop (n*j)).take n=aI n (l[j]).toNat:=by
 have e:l=l.take j++l[j]::l.drop (j+1):=by rw [<-bO h,bX]
 have e2:gA n l=gA n (l.take j)++(aI n (l[j]).toNat++gA n (l.drop (j+1))):=by
  conv=>lhs;rw [e]
  unfold gA;rw [ia,jA]
 rw [e2,List.drop_left' (by rw [jR,aH,pB (Nat.le_of_lt h)]),List.take_left' (aE _ _)]
theorem agB {n:Int} (h:n=2\/n=4):(1<=n/\n<=4)/\(1<=n.toNat/\n.toNat<=4):=by omega
end Go.Lm

namespace Go.Proofs
open Go Go.Lm Go.RowKit
set_option maxRecDepth 1000000
def Ub:Ct
 | [.v (.c (.m 0))],[.map 3 .int .bool M],Q=>Q (.c (.fn 126 [.p 1 0])) [.map 3 .int .bool M,.cells 151 [.m 0]]
 | _,_,_=>False
def acr:=acs.add E9
def Ly (M:(List (Int×Bool))):dx:=λQ=>Q (SV.v (S1.c (Cl.fn (126:Nat) [.p 1 0]))) [HO.map (3:TypeId) Kk.int Ty.bool M,.cells 151 [Cl.m bx]]
theorem ad3:cu 74 Ub:=by
 intro args H Q h;unfold Ub at h;split at h;rotate_left;cases h;rename_i M;refine Wp.dC acr xQ ⟨[],[]⟩ Tryz.f74 (Ly M) ?_;unfold Ly bx;exact h
def TW:Ct
 | [.v (.c (.fn 126 [.p 0 0]))],[.cells 151 [.m 1],.map 3 .int .bool M],Q=>M.length<=1099511627776/\∀ ys,xE ys (M.map (·.1))->Q (.c (.o 2)) [.cells 151 [.m 1],.map 3 .int .bool M,.sl 3 (.int .i64) ys]
 | _,_,_=>False
theorem adF:cu 73 TW:=by
 intro args H Q h;unfold TW at h;split at h;exact Wp.O8 (tM:=151) Tryz.underlying3 amW h.1 h.2;cases h
def xP:List (Nat×Ty):=(38,noTy)::xQ
def an0:Ct:=cD noTy λl=>c0 λQ=>l.length<=1100/\∀ ys,ON l ys->Q (.c (.d (.int .i64) ys)) []
def acq:=(acr.add ad3).add adF
abbrev dG (y0:List (noTy).den) (R:Prop):=List.length y0<=9223372036854775807->R
abbrev cn (y0:List (noTy).den) (y1):=aB noTy y0 y1
abbrev dz (y0) (y1:List (noTy).den) (R:Prop):=0<=y0/\y0< (aA y1)/\R
abbrev eH (y0) (y1:List (noTy).den):=decide (y0< (aA y1))
abbrev dY (y0:List (noTy).den) (y1) (R:Prop):=Ty.ok noTy (cn y0 y1)->R
abbrev gE (y0:List (noTy).den) (R:Prop):=aJ (List.length y0)->R
def Yr (l:(List (noTy).den)):dx:=λQ=>dG l (gE l (aM (λi ag=>br (eH i.1.1 l) (dz i.1.1 l (dY l i.1.1 (lY i.2.1 (List.length (Kk.put Kk.int i.2.1 (cn l i.1.1).2.2.2.1.2.1 true)< 9223372036854775807/\cF i.1.1 (ag ((i.1.1+1,()), 
 Kk.put Kk.int (Kk.put Kk.int i.2.1 (cn l i.1.1).2.2.2.1.2.1 true) (cn l i.1.1).2.2.2.1.2.2.1 true,())))))) (List.length i.2.1<=1099511627776/\∀ (ys:List Int),xE ys (List.map (λx=>x.1) i.2.1)->Q fh [.sl 3 bo 
 ys])) ((ah,()),[],())))
theorem agp:cu 48 an0:=eQ<| jm λl=>gM λQ h=>by
 refine Wp.kC [some (.sl (.int .i64))] [0] ?_;refine Wp.dC acq xP ⟨[(4,⟨[(9,.int .i64)],[(0,.map 3 .int .bool)]⟩)],[]⟩ Tryz.f48 (Yr l) ?_;unfold Yr gE dY lY fh eH dz cF cn dG ah aA aJ bo;obtain ⟨hl,h⟩:=h;refine λ_ _=>aM.intro (λi=>(0<=i.1.1/\i.1.1<=l.length)/\Xi (l.take i.1.1.toNat) i.2.1) (λi=>(l.length - i.1.1).toNat) ⟨⟨bB _,by show (0:Int)<=_;omega⟩,⟨List.nodup_nil,λy=>by simp,cY _⟩⟩ ?_;rintro ⟨⟨j,_⟩,M,_⟩ ⟨⟨j0,j1⟩,h1⟩;simp only at j0 j1 h1 ⊢;have hm:=h1.len;rw [aH] at hm;refine aq (λhc=>?_) (λhc=>?_)
 .have hc:j< (l.length:Int):=of_decide_eq_true hc;have hs:=h1.step (aB noTy l j);rw [<-ixT (e:=noTy) j0 hc] at hs;have hp:=CR M (uW (aB noTy l j)) true;exact ⟨j0,hc,λ_=>⟨by omega,Nat.lt_of_le_of_lt hp (by omega),by unfold aD;omega,⟨⟨by omega,by omega⟩,hs⟩,by omega⟩⟩
 .have hc:¬j< (l.length:Int):=of_decide_eq_false hc;rw [aT (by omega)] at h1;exact ⟨by omega,λys hy=>⟨cY _,h ys (h1.ids hy)⟩⟩
def akR:Ct:=cI λn=>c0 λQ=>(n=2\/n=4)/\Q (.bool true) []
def acp:=acq.add agp
def Sc (n:Int):dx:=λQ=>aD .i64 n->br (n==2) (Q nF []) (Q (.v (.c (.k (.bool (n==4))))) [])
theorem aiN:cu 85 akR:=eQ<| nG λn=>gM λQ h=>by
 refine Wp.dC acp xP ⟨[],[]⟩ Tryz.f85 (Sc n) ?_;unfold Sc nF;obtain ⟨hn,h⟩:=h;refine λ_=>aq (λ_=>h) (λhc=>?_);have:n=4:=by rcases hn with e| e;rw [e] at hc;cases hc;exact e
 rw [this];exact h
def WG:Ct:=cD (Ty.int .i64) λl=>cI λn=>c0 λQ=>(n=2\/n=4)/\(∀ x∈l,0<=x/\x< 256 ^ n.toNat)/\l.length<=100000/\Q (.cH [.c (.d .u8 (gA n.toNat l)),.c (.k (.int .i64 0))]) []
def aco:=acp.add aiN
def Bt (l:(List ((Ty.int .i64)).den)) (n:Int):dx:=λQ=>iB l (aD .i64 n->(n=dw\/n=cL)/\(aJ (List.length l)->aM (λi ag=>br (decide (i.1.1< (aA l))) (0<=i.1.1/\i.1.1< (aA l)/\(Ty.ok bo (aB bo l i.1.1)->i.2.1.1=ah/\(1<=n/\n<=4)/\(0 
 <=aB bo l i.1.1/\aB bo l i.1.1< 256 ^ ax n)/\List.length i.2.1.2.1<=100000000000/\cF i.1.1 (ag ((i.1.1+1,()),(ah,i.2.1.2.1++aI (aU n) (ax (aB bo l i.1.1)),()),())))) (Gs i.2.1.1 i.2.1.2.1 
 Q)) ((ah,()),(ah,[],()),())))
theorem ES:cu 53 WG:=eQ<| jm λl=>nG λn=>gM λQ h=>by
 refine Wp.kC [some (.sl .u8),none] [] ?_;refine Wp.dC aco xP ⟨[(6,⟨[(14,.int .i64)],[(0,.cells 174 [.int .i64,.own 5 .u8])]⟩)],[]⟩ Tryz.f53 (Bt l n) ?_;unfold Bt iB Gs cF bw aU aR ah dw cL aA aJ bo;obtain ⟨hn,hx,hl,h⟩:=h;obtain ⟨h14,n1,n4⟩:=agB hn;refine λ_ _=>⟨hn,λ_=>aM.intro (λi=>(0<=i.1.1/\i.1.1<=l.length)/\i.2.1.1=0/\i.2.1.2.1=gA n.toNat (l.take i.1.1.toNat)) (λi=>(l.length - i.1.1).toNat) ⟨⟨bB _,by show (0:Int)<=_;omega⟩,rfl,rfl⟩ ?_⟩;rintro ⟨⟨j,_⟩,⟨c,x,_⟩,_⟩ ⟨⟨j0,j1⟩,h1,h2⟩;simp only at j0 j1 h1 h2 ⊢;subst h1;have hxl:x.length<=4*l.length:=by
  rw [h2,jR,aH];exact Nat.mul_le_mul n4 (Nat.min_le_right _ _)
 refine aq (λhc=>?_) (λhc=>?_)
 .have hc:j< (l.length:Int):=of_decide_eq_true hc;have hm:=hx _ (tk (e:=.int .i64) j0 hc);exact ⟨j0,hc,λ_=>⟨by trivial,h14,hm,by omega,by unfold aD;omega,⟨⟨by omega,by omega⟩,by trivial,by rw [ixT (e:=.int .i64) j0 hc,VO,h2]⟩,by omega⟩⟩
 .have hc:¬j< (l.length:Int):=of_decide_eq_false hc;rw [aT (by omega)] at h2;subst h2;exact ⟨by trivial,by omega,λ_ _=>⟨aG _,h⟩⟩
def QP:Ct:=cP<| cI λm=>cI λn=>cO λH Q=>match H with
 | [.abs A]=>∃ fs R,RB A fs R/\(n=2\/n=4)/\∃ l:List Int,(∀ x∈l,0<=x/\x< 256 ^ n.toNat)/\R=gA n.toNat l/\m=l.length/\l.length<=100000/\∀ A',RB A' fs R->Q (.cH [.c (.d (.int .i64) l),.c (.k (.int .i64 0))]) [.abs A']
 | _=>False
def acn:=aco.add ES
abbrev Zi (y0:Int) (y1:SV->List HO->Prop) (y2) (y3) (y4):=br (y0 !=0) (y1 (.cH [.c (.k bZ),.c (.k (.int .i64 2))]) [HO.abs y2]) (∃ fs R,RB y2 fs R/\∃ o,o<=List.length R/\y3=(↑(dX fs o):Int)/\(ah<=aV/\aV<=(10000000:Int))/\∀ (A':Value->Atom) (z:List UInt8) (nx e:Int),RB A' fs R->py fs R o bH z nx e->aJ (List.length z)->aD .i64 nx->aD .i64 e->br (e==0) (y1 (.cH [.c (.k bZ),.c (.k (.int .i64 2))]) [HO.abs A']) (y1 (SV.cH [S1.c (.o 1),.c (.k aR)]) [HO.abs A',.sl 3 bo y4]))
def zL (m n:Int) (A:Value->Atom):dx:=λQ=>cg m n (br (cV m) (Q kf [HO.abs A]) ((n=dw\/n=cL)/\∃ fs R,RB A fs R/\∃ o,o<=List.length R/\ah=(↑(dX fs o):Int)/\(ah<=ah/\ah<=(10000000:Int))/\∀ (A':Value->Atom) (z: 
 List UInt8) (nx e:Int),RB A' fs R->py fs R o bx z nx e->db z (cg nx e (aM (λi ag=>fC i.1.1 (br (decide ((aS i.1.1)< m)) (br (i.1.2.2.1==0) (∃ fs R,RB i.2.1 fs R/\∃ o,vy o R i.1.2.1 fs n (∀ (A': 
 Value->Atom) (z:List UInt8) (nx e:Int),RB A' fs R->py fs R o (aU n) z nx e->db z (cg nx e (br (e==0) (fc (List.length z)/\bj (1<=n/\n<=4/\n<=(aA z)/\fc (List.length z)/\(aD .i64 (bK (lZ n z)) 
 ->(List.length i.1.1+List.length [bK (lZ n z)])*8<=ck/\List.length i.1.1+List.length [bK (lZ n z)]<=9223372036854775807/\ag ((i.1.1++ [bK (lZ n z)],nx,e,()),A',())))) (ag ((i.1.1,nx,e,()),A', 
 ())))))) (Zi i.1.2.2.1 Q i.2.1 i.1.2.1 i.1.1)) (Zi i.1.2.2.1 Q i.2.1 i.1.2.1 i.1.1))) (([],nx,e,()),A',())))))
theorem Bg:cu 104 QP:=eQ<| r5<| nG λm=>nG λn=>r6 λH Q h=>by
 split at h;rotate_left;cases h;rename_i A;refine Wp.kC [some (.sl (.int .i64)),none] [1] ?_;refine Wp.dC acn xP ⟨[(6,⟨[(11,.own 3 (.int .i64)),(9,.int .i64),(10,.int .i64)],[(0,.abs)]⟩)],[]⟩ Tryz.f104 (zL m n A) ?_;unfold zL bj vy lZ db cg cV fC Zi kf ck bZ aU aR ah aV dw cL aS aA fc aJ bx bH bo;obtain ⟨fs,R,hR,hn,l,hx,rfl,rfl,hl,h⟩:=h;obtain ⟨h14,n1,n4⟩:=agB hn;have hBl:=jR n.toNat l;refine λ_ _=>aq (λhc=>absurd (of_decide_eq_true hc) (by omega)) (λ_=>⟨hn,fs,_,hR,0,cY _,api fs,⟨by decide,by decide⟩,λA' z nx e hR hz _ _ _=>?_⟩);obtain ⟨rfl,rfl,rfl⟩:=hz.ok (cY _);refine aM.intro (λi=>∃ j,j<=l.length/\i.1.1=l.take j/\i.1.2.1=(dX fs (n.toNat*j):Nat)/\i.1.2.2.1=0/\RB i.2.1 fs (gA n.toNat l)) (λi=>l.length - i.1.1.length) ⟨0,cY _,rfl,by rw [Nat.mul_zero],rfl,hR⟩ ?_;rintro ⟨⟨o,at',e,_⟩,A',_⟩ ⟨j,hj,h1,h2,h3,hR⟩;simp only at hj h1 h2 h3 hR ⊢;subst h1 h2 h3;have hjl:(l.take j).length=j:=by rw [aH];omega
 have hnj:n.toNat*j<=n.toNat*l.length:=Nat.mul_le_mul_left _ hj;rw [hjl];refine λ_=>aq (λhc=>aq (λ_=>?_) (λq=>by cases q)) (λhc=>aq (λq=>by cases q) (λ_=>?_))
 .have hc:(j:Int)< l.length:=of_decide_eq_true hc;have NF:j< l.length:=by omega
  have hj1:n.toNat*j+n.toNat<=(gA n.toNat l).length:=by
   rw [hBl];have:=Nat.mul_le_mul_left n.toNat (show j+1<=l.length by omega);rw [Nat.mul_succ] at this;exact this
  refine ⟨fs,_,hR,_,by rw [hBl];exact hnj,rfl,⟨by omega,by omega⟩,λA' z nx e hR hz _ _ _=>?_⟩;obtain ⟨rfl,rfl,rfl⟩:=hz.ok hj1;have hb:=hx _ (dA NF);rw [PV n.toNat NF];have Qm:=aE n.toNat (l[j]).toNat
  rw [aT (Nat.le_of_eq Qm),ez hb.1 hb.2];have e2:l.take j++ [l[j]]=l.take (j+1):=(bG NF).symm;exact aq (λ_=>⟨by omega,by trivial,h14.1,h14.2,by omega,by omega,λ_=>⟨by simp only [ay];omega,by simp only [ay];omega,⟨j+1,NF,e2,by rw [Nat.mul_succ],by trivial,hR⟩,by rw [af,hjl,ay];omega⟩⟩) (λq=>by cases q)
 .have hc:¬(j:Int)< l.length:=of_decide_eq_false hc;obtain rfl:j=l.length:=by omega
  refine ⟨fs,_,hR,_,by rw [hBl];exact aG _,rfl,⟨by decide,by decide⟩,λA' z nx e hR hz _ _ _=>?_⟩;rcases hz.or with ⟨q,_⟩| ⟨_,rfl,rfl,rfl⟩;rw [hBl] at q;omega
  .rw [eK];exact aq (λq=>by cases q) (λ_=>⟨by show 1<=2;decide,h A' hR⟩)
end Go.Proofs

namespace Go.Lm
open Go
def wy (t:List UInt8):List UInt8:=az t.length::t
def gl (l:List (List UInt8)):List UInt8:=l.flatMap wy
def xaL (x:uD):List (List UInt8):=[x.1.data.toList,x.2.1]
def pC (l:List uD):List (List UInt8):=l.flatMap xaL
def xsB (l:List uD):List UInt8:=aI 1 l.length++gl (pC l)
structure aoo (l:List uD) (z:List UInt8) (e:Int):Prop where
 or:(l= []/\z= []/\e=1)\/(l≠ []/\z=xsB l/\e=0)
theorem uY (l m:List (List UInt8)):gl (l++m)=gl l++gl m:=by unfold gl;exact ia
theorem zS (t:List UInt8) (l:List (List UInt8)):gl (t::l)=wy t++gl l:=rfl
theorem uX:∀ {l:List (List UInt8)},(∀ t∈l,t.length<=255)->(gl l).length<=256*l.length
 | [],_=>aG _
 | t::l,h=>by
  have h1:=h t aK;have h2:=uX (l:=l) λx hx=>h x (aF _ hx);rw [zS,af];unfold wy;simp only [av];omega
theorem Ko (l m:List uD):pC (l++m)=pC l++pC m:=by unfold pC;exact ia
theorem oh:∀ l:List uD,(pC l).length=2*l.length
 | []=>rfl
 | x::l=>by
  have:=oh l;show (xaL x++pC l).length=_;rw [af,this,av];show 2+_=_;omega
theorem abI {x:uD} {last:ByteArray} (h:vX x last=false):1<=x.1.size/\x.1.size<=40/\x.2.1.length<=200:=by
 unfold vX oH gW at h;simp only [Bool.or_eq_false_iff,Bool.not_eq_false',ak,decide_eq_true_eq,decide_eq_false_iff_not] at h;omega
theorem wc:∀ {l:List uD} {last:ByteArray},fH l last=true->∀ x∈l,1<=x.1.size/\x.1.size<=40/\x.2.1.length<=200
 | y::l,last,h,x,hx=>by
  unfold fH at h;split at h;cases h
  .rename_i hb;rcases bz.1 hx with rfl| hx
   .exact abI (by simpa using hb)
   .exact wc h x hx
theorem ml {l:List uD} (h:dF l=true):(∀ x∈l,1<=x.1.size/\x.1.size<=40/\x.2.1.length<=200)/\l.length<=8:=by
 unfold dF at h;simp only [ak,decide_eq_true_eq] at h;exact ⟨wc h.1,by omega⟩
theorem HP {l:List uD} (h:∀ x∈l,1<=x.1.size/\x.1.size<=40/\x.2.1.length<=200):∀ t∈pC l,t.length<=255:=λt ht=>by
 unfold pC at ht;obtain ⟨x,hx,hm⟩:=List.mem_flatMap.1 ht;have:=h x hx;unfold xaL at hm;simp only [bz,List.not_mem_nil,or_false] at hm;rcases hm with rfl| rfl;rw [<-jP];omega;omega
theorem af9 (l:List UInt8):(gu l).size=l.length:=by simp [gu,ByteArray.size]
theorem Oy (l:List UInt8):(gu l).data.toList=l:=by simp [gu]
theorem OW (x:uD):gl (xaL x)=az x.1.size::x.1.data.toList++az x.2.1.length::x.2.1:=by
 show wy x.1.data.toList++(wy x.2.1++ [])=_;unfold wy;rw [bd,<-jP]
theorem EJ:∀ {l:List uD} {k:Nat} (h:k< l.length),((pC l).drop (k*2)).take 2= [(l[k]).1.data.toList,(l[k]).2.1]
 | x::l,0,_=>rfl
 | x::l,k+1,h=>by
  have:=EJ (l:=l) (k:=k) (by simpa using h);rw [show (k+1)*2=2+k*2 by omega,<-eP];exact this
end Go.Lm

namespace Go.Proofs
open Go Go.Lm Go.RowKit
set_option maxRecDepth 1000000
theorem aeW {a b:ByteArray} (h:Go.Lm.leB a b=false):1<=(a.size:Int):=by
 rw [Js] at h;have h1:rG b a=true:=by simpa using h
 unfold rG at h1;rw [jP];rw [Lib.toList_data,Lib.toList_data] at h1;cases hq:a.data.toList with
 | nil=>rw [hq] at h1;cases hb:b.data.toList<;>rw [hb] at h1<;>cases h1
 | cons c l=>simp only [av];omega
theorem Hx (x:uD) (last:ByteArray):vX x last=(Go.Lm.leB x.1 last|| (decide ((x.1.size:Int)>40)|| (decide (Lib.indexByte x.1.data.toList 0≥0)|| decide ((x.2.1.length:Int)>200)))):=by
 unfold vX oH gW Tb;cases hl:Go.Lm.leB x.1 last with
 | true=>simp
 | false=>
  have:=aeW hl;rw [Bool.eq_iff_iff];simp only [lR,dr,Bool.and_eq_false_iff,decide_eq_false_iff_not,decide_eq_true_eq,dS,or_false,false_or];omega
def akJ:Ct:=cD cZ λl=>c0 λQ=>Q (.bool (dF l)) []
def acm:=acn.add Bg
abbrev IW (y0:List (cZ).den) (y1) (y2:SV->List HO->Prop) (y3:_->Prop):=List.length (aB cZ y0 y1).2.1<=9223372036854775807->br (decide ((↑(List.length (aB cZ y0 y1).2.1):Int)>(200:Int))) (bc y2) (cF y1 (y3 ((y1+1,(aB cZ y0 y1).1,()),())))
abbrev dd (y0:List (cZ).den) (y1):=aB cZ y0 y1
abbrev yz (y0:List (cZ).den) (y1:SV->List HO->Prop):=aJ (List.length y0)->y1 (.v (.c (.k (.bool (decide ((aA y0)<=iJ)))))) []
abbrev kz (y0:List (cZ).den) (R:Prop):=List.length y0<=9223372036854775807->R
abbrev sH (y0:List (cZ).den) (y1):=ByteArray.size (dd y0 y1).1
def RW (l:(List (cZ).den)):dx:=λQ=>kz l (aJ (List.length l)->aM (λi ag=>br (decide (i.1.1< (aA l))) (0<=i.1.1/\i.1.1< (aA l)/\(Ty.ok cZ (dd l i.1.1)->br (rG (dd l i.1.1).1 i.1.2.1|| kT (dd l i.1.1).1 i.1.2.1) (bc Q) (br 
 (decide ((↑(sH l i.1.1):Int)>(40:Int))) (bc Q) (aD .i64 (Lib.indexByte (dd l i.1.1).1.data.toList (Nat.toUInt8 bx))->br (decide (Lib.indexByte (dd l i.1.1).1.data.toList (Nat.toUInt8 bx)≥0)) (bc Q) (IW 
 l i.1.1 Q ag))))) (yz l Q)) ((ah,ByteArray.mk #[],()),()))
theorem aiC:cu 180 akJ:=eQ<| jm λl=>gM λQ h=>by
 refine Wp.dC acm xP ⟨[(4,⟨[(8,.int .i64),(3,.str)],[]⟩)],[]⟩ Tryz.f180 (RW l) ?_;unfold RW sH kz yz dd IW cF bc iX ah iJ aA aJ bx;intro _ _;refine aM.intro (λi=>0<=i.1.1/\i.1.1<=l.length/\fH l ⟨#[]⟩=fH (l.drop i.1.1.toNat) i.1.2.1) (λi=>l.length - i.1.1.toNat) ⟨by simp,by simp,by simp⟩ ?_;rintro ⟨⟨i,last,_⟩,_⟩ ⟨h0,h1,h2⟩;simp only at h0 h1 h2 ⊢;refine aq (λhc=>?_) (λhc=>?_)
 .have hc:i< l.length:=by simpa using hc
  refine ⟨h0,hc,λ_=>?_⟩;rw [dc (e:=cZ) h0 hc] at h2;have bad:vX (aB cZ l i) last=true->Q (.bool false) []:=λhb=>by
   simp only [fH,hb,if_true] at h2;unfold dF at h;rw [h2,fg] at h;exact h
  rw [Hx] at bad;refine aq (λh3=>bad (by unfold Go.Lm.leB;rw [h3];rfl)) (λh3=>aq (λh4=>bad (by rw [h4];simp)) (λh4=>λ_=>aq (λh5=>bad (by rw [show decide (Lib.indexByte (aB cZ l i).1.data.toList 0≥0)=true from h5];simp)) (λh5=>λ_=>aq (λh6=>bad (by rw [h6];simp)) (λh6=>?_))));have hn:vX (aB cZ l i) last=false:=by rw [Hx];unfold Go.Lm.leB;rw [h3,h4,show decide (Lib.indexByte (aB cZ l i).1.data.toList 0≥0)=false from h5,h6];rfl
  simp only [fH,hn,dS,if_false] at h2;exact ⟨by unfold aD;omega,⟨by omega,by omega,h2⟩,by omega⟩
 .have hc:¬i< l.length:=by simpa using hc
  rw [dj hc] at h2;intro _;unfold dF at h;rw [h2] at h;exact h
def cC:List (Nat×Ty):=(96,cZ)::xP
def akE:Ct:=cD cZ λl=>c0 λQ=>dF l=true/\∀ z e,aoo l z e->Q (.cH [.c (.d .u8 z),.c (.k (.int .i64 e))]) []
def ack:=acm.add aiC
def RP (l:(List (cZ).den)):dx:=λQ=>kz l (aJ (List.length l)->br ((aA l)==0) (Q kf []) (br (!dF l) (Q kf []) (aJ (List.length l)->pJ ((ah<=(aA l)/\(aA l)< fe ^ bH)/\bx<=j7/\(aJ (List.length l)->aM (fun 
 i ag=>br (decide (i.1.1< (aA l))) (0<=i.1.1/\i.1.1< (aA l)/\(Ty.ok cZ (dd l i.1.1)->i.2.1.1=ah/\ByteArray.size (dd l i.1.1).1<=255/\List.length i.2.1.2.1<=1000000000/\bj (ByteArray.size (gu (dd l 
 i.1.1).2.1)<=255/\List.length (i.2.1.2.1++az (sH l i.1.1)::(dd l i.1.1).1.data.toList)<=1000000000/\cF i.1.1 (ag ((i.1.1+1,()),(ah,i.2.1.2.1++az (sH l i.1.1)::(dd l 
 i.1.1).1.data.toList++az (ByteArray.size (gu (dd l i.1.1).2.1))::(gu (dd l i.1.1).2.1).data.toList,()),()))))) (Gs i.2.1.1 i.2.1.2.1 Q)) ((ah,()),(ah,[]++aI bH (ax (aA l)),()), 
 ()))))))
theorem XI:cu 133 akE:=eQ<| jm λl=>gM λQ h=>by
 refine Wp.kC [some (.sl .u8),none] [] ?_;refine Wp.dC ack cC ⟨[(7,⟨[(20,.int .i64)],[(0,.cells 174 [.int .i64,.own 5 .u8])]⟩)],[]⟩ Tryz.f133 (RP l) ?_;unfold RP sH j7 bj kz pJ dd Gs cF kf bw bZ aR ah aV fe cL aA aJ bx bH;obtain ⟨hx,h⟩:=h;obtain ⟨hm,hl⟩:=ml hx;have hle:=HP hm;refine λ_ _=>aq (λhc=>?_) (λhc=>?_)
 .have hc:(l.length:Int)=0:=eq_of_beq hc;exact ⟨aG _,h [] 1 ⟨.inl ⟨bA (by omega),rfl,rfl⟩⟩⟩
 rw [hx];have jb:l≠ []:=λe=>by subst e;cases hc
 refine aq (λq=>by cases q) (λ_=>λ_=>⟨by trivial,⟨by decide,by decide⟩,⟨by omega,by show _< (256:Int);omega⟩,by decide,λ_=>?_⟩);refine aM.intro (λi=>(0<=i.1.1/\i.1.1<=l.length)/\i.2.1.1=0/\i.2.1.2.1=aI 1 l.length++gl (pC (l.take i.1.1.toNat))) (λi=>(l.length - i.1.1).toNat) ⟨⟨bB _,by show (0:Int)<=_;omega⟩,rfl,by rw [hU,bM];exact (bd _).symm⟩ ?_;rintro ⟨⟨j,_⟩,⟨c,x,_⟩,_⟩ ⟨⟨j0,j1⟩,h1,h2⟩;simp only at j0 j1 h1 h2 ⊢;subst h1;have hxl:x.length<=5000:=by
  have a1:=uX (l:=pC (l.take j.toNat)) λt ht=>hle t (by
   have e:pC l=pC (l.take j.toNat)++pC (l.drop j.toNat):=by rw [<-Ko,bX]
   rw [e];exact cj _ ht)
  rw [oh,aH] at a1;rw [h2,af,aE];omega
 refine aq (λhc=>?_) (λhc=>?_)
 .have hc:j< (l.length:Int):=of_decide_eq_true hc;obtain ⟨m1,m2,m3⟩:=hm _ (tk (e:=cZ) j0 hc);have ht:=ixT (e:=cZ) j0 hc;obtain ⟨y,hy⟩:∃ y,aB cZ l j=y:=⟨_,rfl⟩;rw [hy] at m1 m2 m3 ht ⊢;rw [af9,Oy];have e2:x++az y.1.size::y.1.data.toList++az y.2.1.length::y.2.1=aI 1 l.length++gl (pC (l.take (j+1).toNat)):=by
   rw [ht,Ko,uY,show pC [y]=xaL y++ [] from rfl,bd,OW,h2];simp only [aL]
  exact ⟨j0,hc,λ_=>⟨by trivial,by omega,by omega,by trivial,by omega,by simp only [af,av,<-jP];omega,by unfold aD;omega,⟨⟨by omega,by omega⟩,by trivial,e2⟩,by omega⟩⟩
 .have hc:¬j< (l.length:Int):=of_decide_eq_false hc;rw [aT (by omega)] at h2;exact ⟨by trivial,by omega,λ_ _=>⟨aG _,h _ _ ⟨.inr ⟨jb,h2,rfl⟩⟩⟩⟩
def afH:Ct:=cP<| cI λr=>cI λm=>cO λH Q=>match H with
 | [.abs A]=>∃ fs R,RB A fs R/\∃ o:Nat,o<=R.length/\r=(dX fs o:Int)/\∃ (ts:List (List UInt8)) (q:List UInt8),R.drop o=gl ts++q/\(∀ t∈ts,t.length<=255)/\m=ts.length/\ts.length<=100/\∀ A',RB A' fs R->Q (.cH [.c (.d (.sl .u8) ts),.c (.k (.int .i64 0))]) [.abs A']
 | _=>False
def acj:=ack.add XI
def K2 (r m:Int) (A:Value->Atom):dx:=λQ=>cg r m (aM (λi ag=>br (decide (i.1.2.2.1< m)) (∃ fs R,RB i.2.1 fs R/\∃ o,o<=List.length R/\i.1.2.1=(↑(dX fs o):Int)/\(ah<=aV/\aV<=(10000000:Int))/\∀ (A':Value->Atom) (z:List 
 UInt8) (nx e:Int),RB A' fs R->py fs R o bH z nx e->db z (cg nx e (br (e !=0) (Q (.cH [.c (.k bZ),.c (.k (aC e))]) [HO.abs A']) (ah<=ah/\ah< (aA z)/\(kx z (∃ fs R,RB A' fs R/\∃ o,o<= 
 List.length R/\nx=(↑(dX fs o):Int)/\(ah<=(fS z)/\(fS z)<=(10000000:Int))/\∀ (A':Value->Atom) (z_1:List UInt8) (nx e:Int),RB A' fs R->py fs R o (ax (fS z)) z_1 nx e->db z_1 (cg nx e (br 
 (e !=0) (Q (.cH [.c (.k bZ),.c (.k (aC e))]) [HO.abs A']) ((List.length i.1.1+List.length [z_1])*24<=ck/\List.length i.1.1+List.length [z_1]<=9223372036854775807/\cF i.1.2.2.1 (ag ((i.1.1++ [z_1],nx,i.1.2.2.1+1, 
 ()),A',()))))))))))) (Q (SV.cH [S1.c (.o 1),.c (.k aR)]) [HO.abs i.2.1,.sl 35 bC i.1.1])) (([],r,ah,()),A,()))
theorem adB:cu 197 afH:=eQ<| r5<| nG λr=>nG λm=>r6 λH Q h=>by
 split at h;rotate_left;cases h;rename_i A;refine Wp.kC [some (.sl (.sl .u8)),none] [1] ?_;refine Wp.dC acj cC ⟨[(4,⟨[(8,.own 35 (.sl .u8)),(1,.int .i64),(15,.int .i64)],[(0,.abs)]⟩)],[]⟩ Tryz.f197 (K2 r m A) ?_;unfold K2 kx db cg cF ck bZ aR fS aC ah aV aA aJ bH bC;obtain ⟨fs,R,hR,o,ho,rfl,ts,q,hd,hle,rfl,hl,h⟩:=h;have Wi:∀ j:Nat,R.drop (o+(gl (ts.take j)).length)=gl (ts.drop j)++q:=λj=>by
  rw [<-eP,hd]
  conv=>lhs;rw [<-bX j ts,uY,aL]
  rw [bX];exact lH
 refine λ_ _=>aM.intro (λi=>∃ j,j<=ts.length/\i.1.1=ts.take j/\i.1.2.1=(dX fs (o+(gl (ts.take j)).length):Nat)/\i.1.2.2.1=(j:Int)/\RB i.2.1 fs R) (λi=>ts.length - i.1.1.length) ⟨0,cY _,rfl,rfl,rfl,hR⟩ ?_;rintro ⟨⟨x,r',k,_⟩,A',_⟩ ⟨j,hj,h1,h2,h3,hR⟩;simp only at hj h1 h2 h3 hR ⊢;subst h1 h2 h3;have hjl:(ts.take j).length=j:=by rw [aH];omega
 refine aq (λhc=>?_) (λhc=>?_)
 .have hc:(j:Int)< ts.length:=of_decide_eq_true hc;have NF:j< ts.length:=by omega
  have hp:=Wi j;obtain ⟨p,AJ⟩:∃ p,o+(gl (ts.take j)).length=p:=⟨_,rfl⟩;obtain ⟨t,hte⟩:∃ t,ts[j]=t:=⟨_,rfl⟩;have htl:=hle t (by rw [<-hte];exact dA NF);have ht:ts.take j++ [t]=ts.take (j+1):=by rw [bG NF,hte]
  have apz:(gl (ts.take (j+1))).length=(gl (ts.take j)).length+1+t.length:=by
   rw [<-ht,uY,af];show _+(wy t++ []).length=_;rw [bd];unfold wy;rw [av];omega
  rw [bO NF,hte,zS,AJ] at hp;rw [AJ];unfold wy at hp;simp only [dV,aL] at hp;have JB:=congrArg List.length hp;rw [aQ,av,af] at JB;have hp1:R.drop (p+1)=t++(gl (ts.drop (j+1))++q):=by
   rw [<-eP,hp];rfl
  refine ⟨fs,R,hR,p,by omega,rfl,⟨by decide,by decide⟩,λA' z nx e hR hz _ _ _=>?_⟩;obtain ⟨rfl,rfl,rfl⟩:=hz.ok (by omega);rw [hp];refine aq (λq=>by cases q) (λ_=>⟨by decide,by show (0:Int)< 1;decide,λ_=>?_⟩);show ∃ fs R,_;have hu:(aB .u8 (List.take 1 (az t.length::(t++(gl (ts.drop (j+1))++q)))) 0).toNat=t.length:=YM htl;rw [hu];refine ⟨fs,R,hR,p+1,by omega,rfl,⟨by omega,by omega⟩,λA' z nx e hR hz _ _ _=>?_⟩;rw [bM] at hz;obtain ⟨rfl,rfl,rfl⟩:=hz.ok (by omega);rw [hp1,List.take_left,hjl,ht];exact aq (λq=>by cases q) (λ_=>⟨by simp only [ay];omega,by simp only [ay];omega,by unfold aD;omega,⟨j+1,NF,rfl,by rw [apz,show o+((gl (ts.take j)).length+1+t.length)=p+1+t.length by omega],by omega,hR⟩,by rw [aH];omega⟩)
 .have hc:¬(j:Int)< ts.length:=of_decide_eq_false hc;rw [aT (by omega)];exact ⟨by show 1<=2;decide,h A' hR⟩
end Go.Proofs

