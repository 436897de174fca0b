/- Texts of mine, laid together: I9 Shelf LmZi I10 I11 I12 I13 LmKN LmZj I14 LmVzb KeyI LmZk LmZl I15 LmZm I16. -/
import Derived.Test.YthjbdgokcljocaaGreatDoorQ3
import Derived.Test.YthjbdgokcljocaaGreatDoorProg
import Derived.Test.YthjbdgokcljocaaGreatDoorChecked
import Derived.Shelf.Strings.Builder1
import Derived.Shelf.Strings.Builder2
import Derived.Shelf.Strings.OnBuilder
import Derived.Shelf.Small.Bits
import Derived.Shelf.Small.Strs
import Derived.Shelf.Strings.BuilderF
import Derived.Shelf.Strings.BuilderK
import Derived.Shelf.Strings.Builder2Cap
import Derived.Shelf.Strconv.Itoa0
import Derived.Shelf.Strings.Search1
import Derived.Shelf.Sort.Plain
import Derived.Shelf.Strings.BuilderCap
import Derived.Ground.Names2Prog
import Derived.Shelf.Slices.Clone
import Derived.Shelf.Slices.In.SortNone
import Derived.Shelf.Bytes.SlSearch0
import Derived.Ground.SlbCloneProg
import Derived.Shelf.Bytes.SlClone
import Derived.Ground.SlsfProg
import Derived.Shelf.SlSortCmp.Insertion
import Derived.Shelf.Bytes.SlEqualAll
import Derived.Shelf.Bytes.Small
import Derived.Test.YthjbdgokcljocaaGreatDoorQ1
import Derived.Lib.SplitLaws
import Derived.Lib.Split
import Derived.Lib.Join
import Derived.Laws.Concat
import Derived.Sort.KeysCollected
import Derived.Shelf.SlIterI.Sorted
import Derived.Lib.SlKeysI
set_option linter.unusedVariables false
open Array renaming length_toList → dq
open Bool renaming and_eq_true → ao, not_eq_true' → bY, false_eq_true → eR, or_eq_true → lp, false_and → mI
open Int renaming toNat → ax, toNat_natCast → aU, le_refl → bz
open List renaming length_append → af, length_cons → aq, replicate → av, length_take → aA, length_singleton → aD, append_assoc → aG, mem_cons_of_mem → aH, eq_nil_of_length_eq_zero → aJ, length_nil → aM, length_drop → aN, mem_map → aP, length_replicate → aS, take_of_length_le → aT, getElem?_append_left → aV, append_nil → aW, mem_cons_self → aX, mem_append → aY, getElem?_append_right → a8, getD_eq_getElem?_getD → ba, mem_cons → bm, length_map → bH, flatten_cons → bI, mem_append_left → bM, take_succ_eq_append_getElem → bU, map_cons → bX, drop_eq_getElem_cons → cg, take_append_drop → cv, getElem_mem → dw, nil_append → dQ, nodup_cons → eB, drop_drop → eG, take_length → eN, cons_append → eO, drop_left → eV, mem_filter → fO, map_congr_left → gD, drop_eq_nil_of_le → ik, drop_of_length_le → j4, flatMap_cons → j9, drop_zero → pD
open Nat renaming le_refl → ay, zero_le → cq, min_eq_left → dK, lt_or_ge → dZ, add_mul → fg, add_zero → jP
open Go.Proofs.Tryz renaming prog → cd, underlying3 → oT
open UInt8 renaming ofNat → az, toNat → cW
noncomputable section
namespace Go.Proofs
open Go Go.Lm Go.RowKit
set_option maxRecDepth 1000000
def aiS:Ct:=cI λx=>c0 λQ=>Q (.bool false) []
def af4:=((af5.add Kf).add Ez).add EA
def Re (x:Int):dE:=λQ=>aF .i64 x->Q (.v (.c (.k (.bool (x !=x))))) []
theorem WG:cG 179 aiS:=fz<| nG λx=>iQ λQ h=>by
 refine Wp.dJ af4 jf ⟨[],[]⟩ Tryz.f179 (Re x) (hold:=[92]) ?_;unfold Re;intro _;rw [show (x !=x)=false by simp];exact h
def aep:Ct:=cI λx=>cI λy=>c0 λQ=>Q (.bool (decide (x< y))) []
def af3:=af4.add WG
def K0 (x y:Int):dE:=λQ=>cj x y (Q (.v (.c (.k (.bool (decide (x< y)))))) [])
theorem QI:cG 131 aep:=fz<| nG λx=>nG λy=>iQ λQ h=>by
 refine Wp.dJ af3 jf ⟨[],[]⟩ Tryz.f131 (K0 x y) (hold:=[92]) ?_;unfold K0 cj;exact λ_ _=>h
def VC:Ct:=cD (Ty.int .i64) λx=>c0 λQ=>TS x/\Q (.bool true) []
def af2:=af3.add QI
abbrev bc (y0:SV->List HO->Prop):=y0 kQ []
abbrev hU (y0:List ((Ty.int .i64)).den) (R:Prop):=List.length y0<=9223372036854775807->R
abbrev yo (y0:List ((Ty.int .i64)).den) (y1) (R:Prop):=Ty.ok bF (aK bF y0 y1)->aF .i64 (y1 - 1)/\0<=y1 - 1/\y1 - 1< (aE y0)/\R
def Bf (x:(List ((Ty.int .i64)).den)):dE:=λQ=>hU x (aL (List.length x)->aF .i64 ((aE x) - 1)/\bp (λi ag=>br (decide (i.1.1>0)) (0<=i.1.1/\i.1.1< (aE x)/\(yo x i.1.1 (Ty.ok bF (aK bF x (i.1.1 - 1))->br (decide (aK bF x i.1.1< aK bF 
 x (i.1.1 - 1))) (bc Q) (aF .i64 (i.1.1 - 1)/\ag ((i.1.1 - 1,()),()))))) (Q qK [])) (((aE x) - 1,()),()))
theorem Ev:cG 105 VC:=fz<| lH λx=>iQ λQ h=>by
 refine Wp.dJ af2 jf ⟨[(3,⟨[(3,.int .i64)],[]⟩)],[]⟩ Tryz.f105 (Bf x) (hold:=[92]) ?_;unfold Bf yo hU bc kQ qK aE aL bF;obtain ⟨hs,h⟩:=h;refine λ_ _=>⟨by unfold aF;omega,bp.intro (λi=>i.1.1< (x.length:Int)) (λi=>i.1.1.toNat) (by show (x.length:Int) - 1< x.length;omega) ?_⟩;rintro ⟨⟨i,_⟩,_⟩ h0;simp only at h0 ⊢;refine aw (λhc=>?_) (λ_=>h);have hc:i>0:=of_decide_eq_true hc;have:=hs.le i (by omega) h0;have h0:i< (x.length:Int):=h0;exact ⟨by omega,h0,λ_=>⟨by unfold aF;omega,by omega,by omega,λ_=>aw (λhd=>absurd (of_decide_eq_true hd) (Int.not_lt.2 this)) (λ_=>⟨by unfold aF;omega,by show i - 1< (x.length:Int);omega,by show (i - 1).toNat< i.toNat;omega⟩)⟩⟩
def VA:Ct:=cN od λs=>c0 λQ=>Q (.v (.agg [.k (.int .i64 64),.k (.int .i64 s.2.2.1),.k (.int .i64 s.2.2.2.1),.k (.int .i64 s.2.2.2.2.1),.k (.int .i64 s.2.2.2.2.2.1),.k (.int .i64 s.2.2.2.2.2.2.1),.k (.int .i64 s.1),.k (.int .i64 1048576)])) []
def af1:=af2.add Ev
abbrev cA (y0:Int) (y1:Int) (y2:Int) (R:Prop):=aF .i64 y0->aF .i64 y1->aF .i64 y2->R
def Bd:((od).den)->dE:=
 λs Q=>cA s.1 s.2.1 s.2.2.1 (cA s.2.2.2.1 s.2.2.2.2.1 s.2.2.2.2.2.1 (cA s.2.2.2.2.2.2.1 s.2.2.2.2.2.2.2.1 s.2.2.2.2.2.2.2.2.1 (aF .i64 s.2.2.2.2.2.2.2.2.2.1->Q (SV.v (S1.agg [.k (.int .i64 64),.k (aC s.2.2.1),.k (aC 
 s.2.2.2.1),.k (aC s.2.2.2.2.1),.k (aC s.2.2.2.2.2.1),.k (aC s.2.2.2.2.2.2.1),.k (aC s.1),.k (.int .i64 1048576)])) [])))
theorem T8:cG 143 VA:=fz<| V8 λs=>iQ λQ h=>by
 refine Wp.dJ af1 jf ⟨[],[]⟩ Tryz.f143 (Bd s) (hold:=[92]) ?_;unfold Bd cA aC;exact λ_ _ _ _ _ _ _ _ _ _=>h
def VB:Ct:=cI λx=>cI λy=>cI λz=>c0 λQ=>(y<=x/\x<=z)/\Q (.bool true) []
def af0:=af1.add T8
def Be (x y z:Int):dE:=λQ=>cA x y z (br (decide (y<=x)) (Q (.v (.c (.k (.bool (decide (x<=z)))))) []) (bc Q))
theorem T9:cG 144 VB:=fz<| nG λx=>nG λy=>nG λz=>iQ λQ h=>by
 refine Wp.dJ af0 jf ⟨[],[]⟩ Tryz.f144 (Be x y z) (hold:=[92]) ?_;unfold Be bc cA kQ;obtain ⟨⟨h1,h2⟩,h⟩:=h;refine λ_ _ _=>aw (λ_=>?_) (λhc=>absurd h1 (of_decide_eq_false hc));rw [decide_eq_true h2];exact h
def Qi:Ct:=cN od λs=>c0 λQ=>rD s/\Q (.bool true) []
def afZ:=af0.add T9
def zx:((od).den)->dE:=
 λs Q=>cA s.1 s.2.1 s.2.2.1 (cA s.2.2.2.1 s.2.2.2.2.1 s.2.2.2.2.2.1 (cA s.2.2.2.2.2.2.1 s.2.2.2.2.2.2.2.1 s.2.2.2.2.2.2.2.2.1 (aF .i64 s.2.2.2.2.2.2.2.2.2.1->aF .i64 64->cA s.2.2.1 s.2.2.2.1 s.2.2.2.2.1 (cA 
 s.2.2.2.2.2.1 s.2.2.2.2.2.2.1 s.1 (aF .i64 1048576->Gf<=eW/\0<=cn none 0/\cn none 0< (↑Gf:Int)/\cn none 0<=cn none (↑Gf:Int)/\cn none (↑Gf:Int)<=(↑Gf:Int)/\TS [gl,s.2.2.1, 
 s.2.2.2.1,s.2.2.2.2.1,s.2.2.2.2.2.1,s.2.2.2.2.2.2.1,s.1,(1048576:Int)]/\(1<=s.2.1/\s.2.1<=1024)/\(1<=s.2.2.2.2.2.2.2.1/\s.2.2.2.2.2.2.2.1<=2048)/\(0<=s.2.2.2.2.2.2.2.2.1/\s.2.2.2.2.2.2.2.2.1<=1024)/\(0<= 
 s.2.2.2.2.2.2.2.2.2.1/\s.2.2.2.2.2.2.2.2.2.1<=4294967295)/\Q qK [])))))
theorem Oo:cG 91 Qi:=fz<| V8 λs=>iQ λQ h=>by
 refine Wp.dJ afZ jf ⟨[],[]⟩ Tryz.f91 (zx s) (hold:=[92,105]) ?_;unfold zx eW cA qK gl Gf;obtain ⟨hs,h⟩:=h;exact λ_ _ _ _ _ _ _ _ _ _ _ _ _ _ _ _ _ _=>⟨by decide,by decide,by decide,by decide,by decide,ahv hs.p1 hs.p2 hs.p3 hs.p4 hs.p5 hs.p6 hs.p7,hs.n1,hs.n2,hs.n3,hs.n4,h⟩
def aiG:Ct:=cP<| cO λH Q=>match H with
 | [.cells 86 [.k (.int .i64 s0),.k (.int .i64 s1),.k (.int .i64 s2),.k (.int .i64 s3),.k (.int .i64 s4),.k (.int .i64 s5),.k (.int .i64 s6),.k (.int .i64 s7),.k (.int .i64 s8),.k (.int .i64 s9)]]=>Q (.c (.sc 1 0 7)) [.cells 86 [.k (.int .i64 s0),.k (.int .i64 s1),.k (.int .i64 s2),.k (.int .i64 s3),.k (.int .i64 s4),.k (.int .i64 s5),.k (.int .i64 s6),.k (.int .i64 s7),.k (.int .i64 s8),.k (.int .i64 s9)],.cells 130 [.p 0 0,.p 0 2,.p 0 3,.p 0 4,.p 0 5,.p 0 6,.p 0 9]]
 | _=>False
def afY:=afZ.add Oo
def QX (s0 s1 s2 s3 s4 s5 s6 s7 s8 s9:Int):dE:=λQ=>Q (SV.v (S1.c (Cl.sc bJ bD jX))) [.cells 86 [.k (aC s0),.k (aC s1),.k (aC s2),.k (aC s3),.k (aC s4),.k (aC s5),.k (aC s6),.k (aC s7),.k (aC s8),.k (aC s9)],.cells 
 130 [.p 0 0,.p 0 2,.p 0 3,.p 0 4,.p 0 5,.p 0 6,.p 0 9]]
theorem agJ:cG 93 aiG:=fz<| rJ<| rK λH Q h=>by
 split at h;rotate_left;cases h;rename_i s0 s1 s2 s3 s4 s5 s6 s7 s8 s9;refine Wp.dJ afY jf ⟨[],[]⟩ Tryz.f93 (QX s0 s1 s2 s3 s4 s5 s6 s7 s8 s9) (hold:=[92,105]) ?_;unfold QX aC bD bJ jX;exact h
def ZJ:Ct:=cP<| cO λH Q=>match H with
 | [.cells 86 [.k (.int .i64 s0),.k (.int .i64 s1),.k (.int .i64 s2),.k (.int .i64 s3),.k (.int .i64 s4),.k (.int .i64 s5),.k (.int .i64 s6),.k (.int .i64 s7),.k (.int .i64 s8),.k (.int .i64 s9)]]=>Q (.c (.sc 1 0 3)) [.cells 86 [.k (.int .i64 s0),.k (.int .i64 s1),.k (.int .i64 s2),.k (.int .i64 s3),.k (.int .i64 s4),.k (.int .i64 s5),.k (.int .i64 s6),.k (.int .i64 s7),.k (.int .i64 s8),.k (.int .i64 s9)],.cells 130 [.p 0 1,.p 0 7,.p 0 8]]
 | _=>False
def afX:=afY.add agJ
def ES (s0 s1 s2 s3 s4 s5 s6 s7 s8 s9:Int):dE:=λQ=>Q (SV.v (S1.c (Cl.sc bJ bD eZ))) [.cells 86 [.k (aC s0),.k (aC s1),.k (aC s2),.k (aC s3),.k (aC s4),.k (aC s5),.k (aC s6),.k (aC s7),.k (aC s8),.k (aC s9)],.cells 
 130 [.p 0 1,.p 0 7,.p 0 8]]
theorem WD:cG 94 ZJ:=fz<| rJ<| rK λH Q h=>by
 split at h;rotate_left;cases h;rename_i s0 s1 s2 s3 s4 s5 s6 s7 s8 s9;refine Wp.dJ afX jf ⟨[],[]⟩ Tryz.f94 (ES s0 s1 s2 s3 s4 s5 s6 s7 s8 s9) (hold:=[92,105]) ?_;unfold ES aC bD bJ eZ;exact h
def Qh:Ct:=cT λT=>cN od λs=>c0 λQ=>T.length=256/\rD s/\Q (.cJ [.c (.d .u8 (fF T s)),.c (.k (.int .i64 0))]) []
def afW:=afX.add WD
abbrev eX:=ah+1+1+1+1
abbrev fT:=ah+1+1+1+1+1
abbrev dY:=ah+1+1+1
abbrev lg:=ah+1+1+1+1+1+1
abbrev dP:=ah+1+1
abbrev eA:=(0:Ty.den Ty.u8)
abbrev pR (R:Prop):=ah<=ah+1+1+1+1+1+1/\ah+1+1+1+1+1+1< (↑jX:Int)/\R
abbrev sd (y0) (y1:List Int):=y0++aI cU (ax (cu y1 ah y0))
abbrev X3 {A2:Type} (y0:Int) (y1:Int) (y2:List A2) (R:Prop):=y0=ah/\(bd<=cC/\cC<=cC)/\(0<=y1/\y1< 256 ^ cU)/\List.length y2<=100000000000/\R
abbrev pQ (R:Prop):=ah<=ah+1+1+1+1+1/\ah+1+1+1+1+1< (↑jX:Int)/\R
abbrev fS (R:Prop):=ah<=ah+1+1+1+1/\R
abbrev pO (R:Prop):=ah<=ah+1+1+1/\ah+1+1+1< (↑jX:Int)/\R
abbrev dG:=ah+1
abbrev lD (y0:Int):=0<=y0/\y0< 256 ^ bn
abbrev pM (R:Prop):=ah<=ah+1+1/\ah+1+1< (↑jX:Int)/\R
abbrev RW (y0) (y1:List Int):=y0++aI cU (ax (cu y1 ah y0))++av (ax (gl - (a7 (sd y0 y1)))) eA
abbrev pJ (R:Prop):=ah<=ah+1/\ah+1< (↑jX:Int)/\R
abbrev yC (y0) (y1) (y2) (y3:_->Prop):=X3 y0 y1 y2 (y3 ((),(ah,y2++aI cU (aZ y1),()),()))
abbrev ma (R:Prop):=ah<=ah/\ah< (↑jX:Int)/\R
abbrev IA {A2:Type} (y0) (y1) (y2:List A2) (R:Prop):=y0=ah/\(bd<=di/\di<=cC)/\(lD y1)/\List.length y2<=100000000000/\R
abbrev po (R:Prop):=aF .i64 (ah+1+1+1+1+1+1+1)/\R
abbrev l5 (R:Prop):=ah+1+1+1+1< (↑jX:Int)/\R
abbrev oq (y0:Int):=0<=y0/\y0< 256 ^ cU
abbrev Ii (y0) (y1):=((),(ah,y0++aI bn (aZ y1),()),())
def zw:(List Int)->((od).den)->dE:=
 λT s Q=>cA s.1 s.2.1 s.2.2.1 (cA s.2.2.2.1 s.2.2.2.2.1 s.2.2.2.2.2.1 (cA s.2.2.2.2.2.2.1 s.2.2.2.2.2.2.2.1 s.2.2.2.2.2.2.2.2.1 (aF .i64 s.2.2.2.2.2.2.2.2.2.1->rD s/\ [az 76,az 77,az 76, 
 az 65]≠ []/\bt (bD<=j5/\cU<=(100000000:Nat)/\jX<=eW/\cV (λk=>ma (bt ((bd<=cC/\cC<=cC)/\(oq s.1)/\cU<=j5/\k ((),(ah,[]++ [az 76,az 
 77,az 76,az 65]++aI cU (aZ s.1),()),())))) λi=>aF .i64 dG/\cV (λk=>pJ (yC i.2.1.1 s.2.2.1 i.2.1.2.1 k)) λi=>aF .i64 dP/\cV (λk=>pM (yC i.2.1.1 s.2.2.2.1 
 i.2.1.2.1 k)) λi=>aF .i64 dY/\cV (λk=>pO (yC i.2.1.1 s.2.2.2.2.1 i.2.1.2.1 k)) λi=>aF .i64 eX/\cV (λk=>fS (l5 (X3 i.2.1.1 s.2.2.2.2.2.1 i.2.1.2.1 (k ((),(ah,i.2.1.2.1++aI cU 
 (aZ s.2.2.2.2.2.1),()),()))))) λi=>aF .i64 fT/\cV (λk=>pQ (yC i.2.1.1 s.2.2.2.2.2.2.1 i.2.1.2.1 k)) λi=>aF .i64 lg/\cV (λk=>pR (yC i.2.1.1 s.2.2.2.2.2.2.2.2.2.1 i.2.1.2.1 k)) λi=> 
 po (eZ<=eW/\cV (λk=>ah<=ah/\ah< jC/\IA i.2.1.1 s.2.1 i.2.1.2.1 (k (Ii i.2.1.2.1 s.2.1))) λi=>aF .i64 dG/\cV (λk=>ah<=ah+1/\ah+1< jC/\IA i.2.1.1 
 s.2.2.2.2.2.2.2.1 i.2.1.2.1 (k (Ii i.2.1.2.1 s.2.2.2.2.2.2.2.1))) λi=>aF .i64 dP/\cV (λk=>ah<=ah+1+1/\ah+1+1< jC/\IA i.2.1.1 s.2.2.2.2.2.2.2.2.1 i.2.1.2.1 (k (Ii i.2.1.2.1 
 s.2.2.2.2.2.2.2.2.1))) λi=>aF .i64 dY/\i.2.1.1=ah/\List.length i.2.1.2.1<=100000000000/\(aL (bO i.2.1.2.1)->dO T (Iz T i.2.1.2.1 (List.length i.2.1.2.1<=100000000000/\bt (List.length (sd i.2.1.2.1 T) 
 <=100000000000/\(aF .i64 (a7 (sd i.2.1.2.1 T))->aF .i64 (gl - (a7 (sd i.2.1.2.1 T)))/\gl - (a7 (sd i.2.1.2.1 T))=gl - (a7 (sd i.2.1.2.1 T))/\ah<=gl - (a7 (sd i.2.1.2.1 T))/\gl - 
 (a7 (sd i.2.1.2.1 T))<=(140737488355328:Int)/\bt (List.length (sd i.2.1.2.1 T)<=100000000000/\List.length (av (ax (gl - (a7 (sd i.2.1.2.1 T)))) eA)<=100000000/\bt (List.length (RW 
 i.2.1.2.1 T)<=100000000000/\(List.length (RW i.2.1.2.1 T)<=9223372036854775807->aF .i64 0->Q (SV.cJ [S1.c (Cl.d Ty.u8 (RW i.2.1.2.1 T)),.c (.k a6)]) [])))))))))))))
theorem AZ:cG 57 Qh:=fz<| okT λT=>V8 λs=>iQ λQ h=>by
 refine Wp.lq [some (.sl .u8),none] [] ?_;refine Wp.dJ afW jf ⟨[],[(10,⟨[],[(1,.cells 174 [.int .i64,.own 5 .u8])]⟩),(15,⟨[],[(1,.cells 174 [.int .i64,.own 5 .u8])]⟩)]⟩ Tryz.f57 (zw T s) (hold:=[92,105]) (unr:=[(7,9),(12,5)]) ?_;unfold zw Ii jC oq l5 j5 bt Iz po IA ma yC pJ RW pM dO lD dG pO fS bO pQ X3 eW sd pR eA dP lg dY fT eX aZ a6 cA ah bd di cC gl a7 aL bD bn bK eZ cU jX;obtain ⟨hT,hs,h⟩:=h;obtain ⟨s0,s1,s2,s3,s4,s5,s6,s7,s8,s9,rfl,p1,p2,p3,p4,p5,p6,p7,n1,n2,n3,n4⟩:=hs.ints;have b0:0<=s0/\s0< 256 ^ 4:=⟨by have:=hs.p1;have:=hs.p2;have:=hs.p3;have:=hs.p4;have:=hs.p5;have:=hs.p6;have:=hs.p7;have:=hs.n1;have:=hs.n2;have:=hs.n3;have:=hs.n4;omega,by have:=hs.p1;have:=hs.p2;have:=hs.p3;have:=hs.p4;have:=hs.p5;have:=hs.p6;have:=hs.p7;have:=hs.n1;have:=hs.n2;have:=hs.n3;have:=hs.n4;show _< (4294967296:Int);omega⟩;have b2:0<=s2/\s2< 256 ^ 4:=⟨by have:=hs.p1;have:=hs.p2;have:=hs.p3;have:=hs.p4;have:=hs.p5;have:=hs.p6;have:=hs.p7;have:=hs.n1;have:=hs.n2;have:=hs.n3;have:=hs.n4;omega,by have:=hs.p1;have:=hs.p2;have:=hs.p3;have:=hs.p4;have:=hs.p5;have:=hs.p6;have:=hs.p7;have:=hs.n1;have:=hs.n2;have:=hs.n3;have:=hs.n4;show _< (4294967296:Int);omega⟩;have b3:0<=s3/\s3< 256 ^ 4:=⟨by have:=hs.p1;have:=hs.p2;have:=hs.p3;have:=hs.p4;have:=hs.p5;have:=hs.p6;have:=hs.p7;have:=hs.n1;have:=hs.n2;have:=hs.n3;have:=hs.n4;omega,by have:=hs.p1;have:=hs.p2;have:=hs.p3;have:=hs.p4;have:=hs.p5;have:=hs.p6;have:=hs.p7;have:=hs.n1;have:=hs.n2;have:=hs.n3;have:=hs.n4;show _< (4294967296:Int);omega⟩;have b4:0<=s4/\s4< 256 ^ 4:=⟨by have:=hs.p1;have:=hs.p2;have:=hs.p3;have:=hs.p4;have:=hs.p5;have:=hs.p6;have:=hs.p7;have:=hs.n1;have:=hs.n2;have:=hs.n3;have:=hs.n4;omega,by have:=hs.p1;have:=hs.p2;have:=hs.p3;have:=hs.p4;have:=hs.p5;have:=hs.p6;have:=hs.p7;have:=hs.n1;have:=hs.n2;have:=hs.n3;have:=hs.n4;show _< (4294967296:Int);omega⟩;have b5:0<=s5/\s5< 256 ^ 4:=⟨by have:=hs.p1;have:=hs.p2;have:=hs.p3;have:=hs.p4;have:=hs.p5;have:=hs.p6;have:=hs.p7;have:=hs.n1;have:=hs.n2;have:=hs.n3;have:=hs.n4;omega,by have:=hs.p1;have:=hs.p2;have:=hs.p3;have:=hs.p4;have:=hs.p5;have:=hs.p6;have:=hs.p7;have:=hs.n1;have:=hs.n2;have:=hs.n3;have:=hs.n4;show _< (4294967296:Int);omega⟩;have b6:0<=s6/\s6< 256 ^ 4:=⟨by have:=hs.p1;have:=hs.p2;have:=hs.p3;have:=hs.p4;have:=hs.p5;have:=hs.p6;have:=hs.p7;have:=hs.n1;have:=hs.n2;have:=hs.n3;have:=hs.n4;omega,by have:=hs.p1;have:=hs.p2;have:=hs.p3;have:=hs.p4;have:=hs.p5;have:=hs.p6;have:=hs.p7;have:=hs.n1;have:=hs.n2;have:=hs.n3;have:=hs.n4;show _< (4294967296:Int);omega⟩;have b9:0<=s9/\s9< 256 ^ 4:=⟨by have:=hs.p1;have:=hs.p2;have:=hs.p3;have:=hs.p4;have:=hs.p5;have:=hs.p6;have:=hs.p7;have:=hs.n1;have:=hs.n2;have:=hs.n3;have:=hs.n4;omega,by have:=hs.p1;have:=hs.p2;have:=hs.p3;have:=hs.p4;have:=hs.p5;have:=hs.p6;have:=hs.p7;have:=hs.n1;have:=hs.n2;have:=hs.n3;have:=hs.n4;show _< (4294967296:Int);omega⟩;have b1:0<=s1/\s1< 256 ^ 2:=⟨by have:=hs.p1;have:=hs.p2;have:=hs.p3;have:=hs.p4;have:=hs.p5;have:=hs.p6;have:=hs.p7;have:=hs.n1;have:=hs.n2;have:=hs.n3;have:=hs.n4;omega,by have:=hs.p1;have:=hs.p2;have:=hs.p3;have:=hs.p4;have:=hs.p5;have:=hs.p6;have:=hs.p7;have:=hs.n1;have:=hs.n2;have:=hs.n3;have:=hs.n4;show _< (65536:Int);omega⟩;have b7:0<=s7/\s7< 256 ^ 2:=⟨by have:=hs.p1;have:=hs.p2;have:=hs.p3;have:=hs.p4;have:=hs.p5;have:=hs.p6;have:=hs.p7;have:=hs.n1;have:=hs.n2;have:=hs.n3;have:=hs.n4;omega,by have:=hs.p1;have:=hs.p2;have:=hs.p3;have:=hs.p4;have:=hs.p5;have:=hs.p6;have:=hs.p7;have:=hs.n1;have:=hs.n2;have:=hs.n3;have:=hs.n4;show _< (65536:Int);omega⟩;have b8:0<=s8/\s8< 256 ^ 2:=⟨by have:=hs.p1;have:=hs.p2;have:=hs.p3;have:=hs.p4;have:=hs.p5;have:=hs.p6;have:=hs.p7;have:=hs.n1;have:=hs.n2;have:=hs.n3;have:=hs.n4;omega,by have:=hs.p1;have:=hs.p2;have:=hs.p3;have:=hs.p4;have:=hs.p5;have:=hs.p6;have:=hs.p7;have:=hs.n1;have:=hs.n2;have:=hs.n3;have:=hs.n4;show _< (65536:Int);omega⟩;refine λ_ _ _ _ _ _ _ _ _ _=>⟨hs,by simp,rfl,by decide,by decide,by decide,?_⟩;refine cV.intro (λi=>i.2.1.1=0/\i.2.1.2.1=([76,77,76,65]:List UInt8)++aI 4 s0.toNat) ⟨by decide,by decide,rfl,⟨by decide,by decide⟩,b0,by decide,rfl,rfl⟩ ?_;rintro ⟨_,⟨c,x,_⟩,_⟩ ⟨e1,e2⟩;dsimp only at e1 e2 ⊢;subst e1 e2;refine ⟨by unfold aF;decide,?_⟩;refine cV.intro (λi=>i.2.1.1=0/\i.2.1.2.1=([76,77,76,65]:List UInt8)++aI 4 s0.toNat++aI 4 s2.toNat) ⟨by decide,by decide,rfl,⟨by decide,by decide⟩,b2,by simp only [af,aB,aq,aM];decide,rfl,rfl⟩ ?_;rintro ⟨_,⟨c,x,_⟩,_⟩ ⟨e1,e2⟩;dsimp only at e1 e2 ⊢;subst e1 e2;refine ⟨by unfold aF;decide,?_⟩;refine cV.intro (λi=>i.2.1.1=0/\i.2.1.2.1=([76,77,76,65]:List UInt8)++aI 4 s0.toNat++aI 4 s2.toNat++aI 4 s3.toNat) ⟨by decide,by decide,rfl,⟨by decide,by decide⟩,b3,by simp only [af,aB,aq,aM];decide,rfl,rfl⟩ ?_;rintro ⟨_,⟨c,x,_⟩,_⟩ ⟨e1,e2⟩;dsimp only at e1 e2 ⊢;subst e1 e2;refine ⟨by unfold aF;decide,?_⟩;refine cV.intro (λi=>i.2.1.1=0/\i.2.1.2.1=([76,77,76,65]:List UInt8)++aI 4 s0.toNat++aI 4 s2.toNat++aI 4 s3.toNat++aI 4 s4.toNat) ⟨by decide,by decide,rfl,⟨by decide,by decide⟩,b4,by simp only [af,aB,aq,aM];decide,rfl,rfl⟩ ?_;rintro ⟨_,⟨c,x,_⟩,_⟩ ⟨e1,e2⟩;dsimp only at e1 e2 ⊢;subst e1 e2;refine ⟨by unfold aF;decide,?_⟩;refine cV.intro (λi=>i.2.1.1=0/\i.2.1.2.1=([76,77,76,65]:List UInt8)++aI 4 s0.toNat++aI 4 s2.toNat++aI 4 s3.toNat++aI 4 s4.toNat++aI 4 s5.toNat) ⟨by decide,by decide,rfl,⟨by decide,by decide⟩,b5,by simp only [af,aB,aq,aM];decide,rfl,rfl⟩ ?_;rintro ⟨_,⟨c,x,_⟩,_⟩ ⟨e1,e2⟩;dsimp only at e1 e2 ⊢;subst e1 e2;refine ⟨by unfold aF;decide,?_⟩;refine cV.intro (λi=>i.2.1.1=0/\i.2.1.2.1=([76,77,76,65]:List UInt8)++aI 4 s0.toNat++aI 4 s2.toNat++aI 4 s3.toNat++aI 4 s4.toNat++aI 4 s5.toNat++aI 4 s6.toNat) ⟨by decide,by decide,rfl,⟨by decide,by decide⟩,b6,by simp only [af,aB,aq,aM];decide,rfl,rfl⟩ ?_;rintro ⟨_,⟨c,x,_⟩,_⟩ ⟨e1,e2⟩;dsimp only at e1 e2 ⊢;subst e1 e2;refine ⟨by unfold aF;decide,?_⟩;refine cV.intro (λi=>i.2.1.1=0/\i.2.1.2.1=([76,77,76,65]:List UInt8)++aI 4 s0.toNat++aI 4 s2.toNat++aI 4 s3.toNat++aI 4 s4.toNat++aI 4 s5.toNat++aI 4 s6.toNat++aI 4 s9.toNat) ⟨by decide,by decide,rfl,⟨by decide,by decide⟩,b9,by simp only [af,aB,aq,aM];decide,rfl,rfl⟩ ?_;rintro ⟨_,⟨c,x,_⟩,_⟩ ⟨e1,e2⟩;dsimp only at e1 e2 ⊢;subst e1 e2;refine ⟨by unfold aF;decide,by decide,?_⟩;refine cV.intro (λi=>i.2.1.1=0/\i.2.1.2.1=([76,77,76,65]:List UInt8)++aI 4 s0.toNat++aI 4 s2.toNat++aI 4 s3.toNat++aI 4 s4.toNat++aI 4 s5.toNat++aI 4 s6.toNat++aI 4 s9.toNat++aI 2 s1.toNat) ⟨by decide,by decide,rfl,⟨by decide,by decide⟩,b1,by simp only [af,aB,aq,aM];decide,rfl,rfl⟩ ?_;rintro ⟨_,⟨c,x,_⟩,_⟩ ⟨e1,e2⟩;dsimp only at e1 e2 ⊢;subst e1 e2;refine ⟨by unfold aF;decide,?_⟩;refine cV.intro (λi=>i.2.1.1=0/\i.2.1.2.1=([76,77,76,65]:List UInt8)++aI 4 s0.toNat++aI 4 s2.toNat++aI 4 s3.toNat++aI 4 s4.toNat++aI 4 s5.toNat++aI 4 s6.toNat++aI 4 s9.toNat++aI 2 s1.toNat++aI 2 s7.toNat) ⟨by decide,by decide,rfl,⟨by decide,by decide⟩,b7,by simp only [af,aB,aq,aM];decide,rfl,rfl⟩ ?_;rintro ⟨_,⟨c,x,_⟩,_⟩ ⟨e1,e2⟩;dsimp only at e1 e2 ⊢;subst e1 e2;refine ⟨by unfold aF;decide,?_⟩;refine cV.intro (λi=>i.2.1.1=0/\i.2.1.2.1=fR (s0,s1,s2,s3,s4,s5,s6,s7,s8,s9,())) ⟨by decide,by decide,rfl,⟨by decide,by decide⟩,b8,by simp only [af,aB,aq,aM];decide,rfl,by unfold fR;simp only [aG]⟩ ?_;rintro ⟨_,⟨c,x,_⟩,_⟩ ⟨e1,e2⟩;dsimp only at e1 e2 ⊢;subst e1 e2;refine ⟨by unfold aF;decide,?_⟩;have hl:=uV (s0,s1,s2,s3,s4,s5,s6,s7,s8,s9,());have uG:(fR (s0,s1,s2,s3,s4,s5,s6,s7,s8,s9,())++aI 4 (cu T 0 (fR (s0,s1,s2,s3,s4,s5,s6,s7,s8,s9,()))).toNat).length=42:=by rw [af,aB,hl]
 have hc:=yS T 0 (fR (s0,s1,s2,s3,s4,s5,s6,s7,s8,s9,()));have hr:(av 22 (0:UInt8)).length=22:=aS;rw [uG];refine ⟨rfl,by omega,λ_=>⟨hT,λ_=>⟨rfl,⟨by decide,by decide⟩,⟨hc.1,by have:=hc.2;show _< (4294967296:Int);omega⟩,by omega,rfl,by omega,λ_=>⟨by unfold aF;decide,rfl,by decide,by decide,rfl,by omega,by show (av 22 (0:UInt8)).length<=_;omega,rfl,by show (_++av 22 (0:UInt8)).length<=_;rw [af,uG,hr];decide,λ_ _=>⟨ay _,?_⟩⟩⟩⟩⟩;have e:fF T (s0,s1,s2,s3,s4,s5,s6,s7,s8,s9,())=fR (s0,s1,s2,s3,s4,s5,s6,s7,s8,s9,())++aI 4 (cu T 0 (fR (s0,s1,s2,s3,s4,s5,s6,s7,s8,s9,()))).toNat++av 22 0:=by unfold fF;rw [aG]
 rw [e] at h;exact h
def aiR:Ct:=cB λx=>c0 λQ=>Q (.bool (x !=0)) []
def afV:=afW.add AZ
def Rb (x:Int):dE:=λQ=>aF .u8 x->Q (.v (.c (.k (.bool (x !=0))))) []
theorem agV:cG 102 aiR:=fz<| okB λx=>iQ λQ h=>by
 refine Wp.dJ afV jf ⟨[],[]⟩ Tryz.f102 (Rb x) (hold:=[92,105]) ?_;unfold Rb;exact λ_=>h
def aab:Ct
 | [.v (.c cx),.v (.c (.fn 102 []))],[],Q=>(match (Ty.sl Ty.u8).of [cx] with
  | some (x,[])=>(∀ z∈x,z=0)/\Q (.int (-1)) []
  | _=>False)
 | _,_,_=>False
def afU:=afV.add agV
abbrev xV (y0:SV->List HO->Prop):=y0 (.v (.c (.k (.int .i64 (-1:Int))))) []
def RC (x:(List (Ty.u8).den)):dE:=λQ=>cM x (aL (dm x)->bp (λi ag=>br (decide (i.1.1< (aE x))) (0<=i.1.1/\i.1.1< (aE x)/\(Ty.ok Ty.u8 (aK Ty.u8 x i.1.1)->br ((yd x i.1.1) !=0) (Q (gQ i.1.1) []) (jq i.1.1 ag))) (xV Q)) 
 jh)
theorem ahf:cG 146 aab:=by
 intro args H Q h;unfold aab at h;split at h;rotate_left;cases h;rename_i cx;split at h;rotate_left;cases h;rename_i x hx;refine Wp.said (args':=[.c (.d Ty.u8 x),.v (.c (.fn 102 []))]) (λE g=>bC.cE (dI hx) (bC.cE (λ_ h=>h) (λ_ h=>h))) ?_;clear hx;refine Wp.dJ afU jf ⟨[(3,⟨[(8,.int .i64)],[]⟩)],[]⟩ Tryz.f146 (RC x) (hold:=[92,105]) ?_;unfold RC xV jh yd gQ dm jq cM aC ah aE aL;obtain ⟨hx,h⟩:=h;refine λ_ _=>bp.intro (λi=>0<=i.1.1) (λi=>x.length - i.1.1.toNat) (bz _) ?_;rintro ⟨⟨i,_⟩,_⟩ h0;have h0:0<=i:=h0;refine aw (λhc=>?_) (λ_=>h);have hc:i< (x.length:Int):=of_decide_eq_true hc;have e:aK .u8 x i=0:=hx _ (uF (e:=.u8) h0 hc);dsimp only;rw [e];exact ⟨h0,hc,λ_=>aw (λhd=>by cases hd) (λ_=>⟨by unfold aF;omega,by show 0<=i+1;omega,by show x.length - (i+1).toNat< x.length - i.toNat;omega⟩)⟩
def Ad:Ct
 | [.v (.c cx),.v (.c (.fn 102 []))],[],Q=>(match (Ty.sl Ty.u8).of [cx] with
  | some (x,[])=>(∀ z∈x,z=0)/\Q (.bool false) []
  | _=>False)
 | _,_,_=>False
def afT:=afU.add ahf
def v7 (x:(List (Ty.u8).den)):dE:=λQ=>cM x ((∀ (z:Ty.den Ty.u8),z∈x->z=eA)/\(aF .i64 (-1:Int)->Q (.v (.c (.k (.bool (decide ((-1:Int)≥ah)))))) []))
theorem Kx:cG 101 Ad:=by
 intro args H Q h;unfold Ad at h;split at h;rotate_left;cases h;rename_i cx;split at h;rotate_left;cases h;rename_i x hx;refine Wp.said (args':=[.c (.d Ty.u8 x),.v (.c (.fn 102 []))]) (λE g=>bC.cE (dI hx) (bC.cE (λ_ h=>h) (λ_ h=>h))) ?_;clear hx;refine Wp.dJ afT jf ⟨[],[]⟩ Tryz.f101 (v7 x) (hold:=[92,105]) ?_;unfold v7 eA cM ah;obtain ⟨hx,h⟩:=h;exact λ_=>⟨hx,λ_=>h⟩
def NC:Ct:=cT λT=>cD .u8 λim=>c0 λQ=>T.length=256/\im.length<=100000000/\∃ s r,rD s/\im=fF T s++r/\s.1=im.length/\Q (.cJ [.agg (od.cells s),.c (.k (.int .i64 0))]) []
def afS:=afT.add Kx
abbrev Ge (y0:SV->List HO->Prop):=y0 (SV.cJ [S1.agg [.k a6,.k a6,.k a6,.k a6,.k a6,.k a6,.k a6,.k a6,.k a6,.k a6],.c (.k (.int .i64 2))]) []
abbrev zH {A0:Type} (y0:List A0) (R:Prop):=bd<=cC/\cC<=cC/\cC<=(a7 y0)/\fa (bO y0)/\R
abbrev B7 (y0:List (Ty.u8).den):=List.take (ax (min (aE y0) gl)) y0
abbrev pr {A0:Type} (y0:List A0):=List.take cU y0
abbrev IF {A1:Type} (y0) (y1:List A1) (R:Prop):=y0=ah/\bd<=di/\di<=cC/\di<=(a7 y1)/\fa (bO y1)/\R
abbrev vl {A0:Type} (y0:List A0):=(ah,List.drop cU y0,())
abbrev sq (y0) (R:Prop):=aF .i64 (bL (pr y0))->R
abbrev mO {A0:Type} (y0:List A0):=List.drop 4 y0
abbrev xW (y0:List (Ty.u8).den):=kF (B7 y0) cC
def vZ (T:List Int) (im:(List (Ty.u8).den)):dE:=λQ=>cM im (aL (dm im)->0<=min (aE im) gl/\min (aE im) gl<=(aE im)/\fa (List.length (B7 im))/\bt (ah<=cC/\fa (List.length (B7 im))/\(List.length (iZ (B7 im) cC)<= 
 9223372036854775807->jX<=eW/\cV (λk=>ma (F7 (B7 im) cC=ah/\bd<=cC/\cC<=cC/\cC<=(↑(List.length (xW im)):Int)/\List.length (xW im)<=140737488355328/\(aF .i64 (bL (List.take 
 cU (xW im)))->k ((),(ah,List.drop cU (xW im),()),(bL (List.take cU (xW im)),ah,ah,ah,ah,ah,ah,ah,ah,ah,()),())))) λi=>aF .i64 dG/\cV (λk=>pJ (i.2.1.1 
 =ah/\zH i.2.1.2.1 (sq i.2.1.2.1 (k ((),(vl i.2.1.2.1),(i.2.2.1.1,i.2.2.1.2.1,bL (pr i.2.1.2.1),i.2.2.1.2.2.2),()))))) λi=>aF .i64 dP/\cV (λk=>pM (i.2.1.1=ah/\zH i.2.1.2.1 (sq 
 i.2.1.2.1 (k ((),(vl i.2.1.2.1),(i.2.2.1.1,i.2.2.1.2.1,i.2.2.1.2.2.1,bL (pr i.2.1.2.1),i.2.2.1.2.2.2.2),()))))) λi=>aF .i64 dY/\cV (λk=>pO (i.2.1.1=ah/\zH i.2.1.2.1 (sq i.2.1.2.1 (k ((), 
 (vl i.2.1.2.1),(i.2.2.1.1,i.2.2.1.2.1,i.2.2.1.2.2.1,i.2.2.1.2.2.2.1,bL (pr i.2.1.2.1),i.2.2.1.2.2.2.2.2),()))))) λi=>aF .i64 eX/\cV (λk=>fS (l5 (i.2.1.1=ah/\zH i.2.1.2.1 (sq i.2.1.2.1 
 (k ((),(vl i.2.1.2.1),(i.2.2.1.1,i.2.2.1.2.1,i.2.2.1.2.2.1,i.2.2.1.2.2.2.1,i.2.2.1.2.2.2.2.1,bL (pr i.2.1.2.1),i.2.2.1.2.2.2.2.2.2),())))))) λi=>aF .i64 fT/\cV (λk=>pQ (i.2.1.1=ah/\zH 
 i.2.1.2.1 (sq i.2.1.2.1 (k ((),(vl i.2.1.2.1),(i.2.2.1.1,i.2.2.1.2.1,i.2.2.1.2.2.1,i.2.2.1.2.2.2.1,i.2.2.1.2.2.2.2.1,i.2.2.1.2.2.2.2.2.1,bL (pr i.2.1.2.1),i.2.2.1.2.2.2.2.2.2.2),()))))) λi=>aF .i64 lg/\ 
 cV (λk=>pR (i.2.1.1=ah/\zH i.2.1.2.1 (sq i.2.1.2.1 (k ((),(vl i.2.1.2.1),(i.2.2.1.1,i.2.2.1.2.1,i.2.2.1.2.2.1,i.2.2.1.2.2.2.1,i.2.2.1.2.2.2.2.1,i.2.2.1.2.2.2.2.2.1,i.2.2.1.2.2.2.2.2.2.1, 
 i.2.2.1.2.2.2.2.2.2.2.1,i.2.2.1.2.2.2.2.2.2.2.2.1,bL (pr i.2.1.2.1),()),()))))) λi=>po (eZ<=eW/\cV (λk=>ah<=ah/\ah< jC/\IF i.2.1.1 i.2.1.2.1 (aF .i64 (bL (List.take bn 
 i.2.1.2.1))->k ((),(ah,List.drop bn i.2.1.2.1,()),(i.2.2.1.1,bL (List.take bn i.2.1.2.1),i.2.2.1.2.2),()))) λi=>aF .i64 dG/\cV (λk=>ah<=ah+1/\ah+1< jC/\IF i.2.1.1 i.2.1.2.1 (aF 
 .i64 (bL (List.take bn i.2.1.2.1))->k ((),(ah,List.drop bn i.2.1.2.1,()),(i.2.2.1.1,i.2.2.1.2.1,i.2.2.1.2.2.1,i.2.2.1.2.2.2.1,i.2.2.1.2.2.2.2.1,i.2.2.1.2.2.2.2.2.1,i.2.2.1.2.2.2.2.2.2.1,bL (List.take bn 
 i.2.1.2.1),i.2.2.1.2.2.2.2.2.2.2.2),()))) λi=>aF .i64 dP/\cV (λk=>ah<=ah+1+1/\ah+1+1< jC/\IF i.2.1.1 i.2.1.2.1 (aF .i64 (bL (List.take bn i.2.1.2.1))->k ((),(ah,List.drop bn 
 i.2.1.2.1,()),(i.2.2.1.1,i.2.2.1.2.1,i.2.2.1.2.2.1,i.2.2.1.2.2.2.1,i.2.2.1.2.2.2.2.1,i.2.2.1.2.2.2.2.2.1,i.2.2.1.2.2.2.2.2.2.1,i.2.2.1.2.2.2.2.2.2.2.1,bL (List.take bn i.2.1.2.1),i.2.2.1.2.2.2.2.2.2.2.2.2),()))) λi=> 
 aF .i64 dY/\i.2.1.1=ah/\(aF .i64 (a7 i.2.1.2.1)->bt (zH i.2.1.2.1 (sq i.2.1.2.1 (aF .u32 (IntKind.wrap .u32 (bL (pr i.2.1.2.1)))->bt (aF .i64 (a7 (mO i.2.1.2.1))->bt (ah<=(a7 (mO 
 i.2.1.2.1))/\fa (List.length (mO i.2.1.2.1))/\(aL (List.length (iZ (mO i.2.1.2.1) (a7 (mO i.2.1.2.1))))->aF .i64 (F7 (mO i.2.1.2.1) (a7 (mO i.2.1.2.1)))->br (F7 (mO i.2.1.2.1) (a7 (mO 
 i.2.1.2.1)) !=0) (Ge Q) (aL (dm im)->br (decide ((aE im)< gl)) (Ge Q) (br (mJ (fD (iZ (B7 im) cC)) (ByteArray.mk #[(76:UInt8),(77:UInt8),(76:UInt8),(65:UInt8)])) (aF .i64 (gl - (a7 
 i.2.1.2.1))/\ah<=gl - (a7 i.2.1.2.1)/\gl - (a7 i.2.1.2.1)<=(aE im)/\dO T (aF .u32 (cu T ah (List.take (ax (gl - (a7 i.2.1.2.1))) im))->br (IntKind.wrap .u32 (bL (pr i.2.1.2.1))== 
 cu T ah (List.take (ax (gl - (a7 i.2.1.2.1))) im)) (aL (dm im)->br (i.2.2.1.1==(aE im)) (rD i.2.2.1/\(∀ (z:Ty.den Ty.u8),List.Mem z (iZ (mO i.2.1.2.1) (a7 (mO i.2.1.2.1)))->z=eA)/\Q 
 (SV.cJ [S1.agg [.k (aC i.2.2.1.1),.k (aC i.2.2.1.2.1),.k (aC i.2.2.1.2.2.1),.k (aC i.2.2.1.2.2.2.1),.k (aC i.2.2.1.2.2.2.2.1),.k (aC i.2.2.1.2.2.2.2.2.1),.k (aC i.2.2.1.2.2.2.2.2.2.1),.k (aC i.2.2.1.2.2.2.2.2.2.2.1), 
 .k (aC i.2.2.1.2.2.2.2.2.2.2.2.1),.k (aC i.2.2.1.2.2.2.2.2.2.2.2.2.1)],.c (.k a6)]) []) (Ge Q)) (Ge Q))) (Ge Q))))))))))))))
theorem zt:cG 58 NC:=fz<| okT λT=>lH λim=>iQ λQ h=>by
 refine Wp.dJ afS jf ⟨[],[(9,⟨[],[(1,.cells 187 [.int .i64,.d .u8]),(2,.cells 86 [.int .i64,.int .i64,.int .i64,.int .i64,.int .i64,.int .i64,.int .i64,.int .i64,.int .i64,.int .i64])]⟩),(14,⟨[],[(1,.cells 187 [.int .i64,.d .u8]),(2,.cells 86 [.int .i64,.int .i64,.int .i64,.int .i64,.int .i64,.int .i64,.int .i64,.int .i64,.int .i64,.int .i64])]⟩)]⟩ Tryz.f58 (vZ T im) (hold:=[92,105]) (unr:=[(6,9),(11,5)]) ?_;unfold vZ xW mO jC sq l5 bt vl po dm IF pr ma pJ pM dO dG B7 pO zH fS bO pQ eW pR eA dP Ge lg dY fT cM eX a6 aC ah bd di cC gl a7 aE fa aL bn bK eZ cU jX;obtain ⟨hT,hl,s,r,hs,rfl,kr,h⟩:=h;obtain ⟨s0,s1,s2,s3,s4,s5,s6,s7,s8,s9,rfl,p1,p2,p3,p4,p5,p6,p7,n1,n2,n3,n4⟩:=hs.ints;have b0:0<=s0/\s0< 256 ^ 4:=⟨by have:=hs.p1;have:=hs.p2;have:=hs.p3;have:=hs.p4;have:=hs.p5;have:=hs.p6;have:=hs.p7;have:=hs.n1;have:=hs.n2;have:=hs.n3;have:=hs.n4;omega,by have:=hs.p1;have:=hs.p2;have:=hs.p3;have:=hs.p4;have:=hs.p5;have:=hs.p6;have:=hs.p7;have:=hs.n1;have:=hs.n2;have:=hs.n3;have:=hs.n4;show _< (4294967296:Int);omega⟩;have b2:0<=s2/\s2< 256 ^ 4:=⟨by have:=hs.p1;have:=hs.p2;have:=hs.p3;have:=hs.p4;have:=hs.p5;have:=hs.p6;have:=hs.p7;have:=hs.n1;have:=hs.n2;have:=hs.n3;have:=hs.n4;omega,by have:=hs.p1;have:=hs.p2;have:=hs.p3;have:=hs.p4;have:=hs.p5;have:=hs.p6;have:=hs.p7;have:=hs.n1;have:=hs.n2;have:=hs.n3;have:=hs.n4;show _< (4294967296:Int);omega⟩;have b3:0<=s3/\s3< 256 ^ 4:=⟨by have:=hs.p1;have:=hs.p2;have:=hs.p3;have:=hs.p4;have:=hs.p5;have:=hs.p6;have:=hs.p7;have:=hs.n1;have:=hs.n2;have:=hs.n3;have:=hs.n4;omega,by have:=hs.p1;have:=hs.p2;have:=hs.p3;have:=hs.p4;have:=hs.p5;have:=hs.p6;have:=hs.p7;have:=hs.n1;have:=hs.n2;have:=hs.n3;have:=hs.n4;show _< (4294967296:Int);omega⟩;have b4:0<=s4/\s4< 256 ^ 4:=⟨by have:=hs.p1;have:=hs.p2;have:=hs.p3;have:=hs.p4;have:=hs.p5;have:=hs.p6;have:=hs.p7;have:=hs.n1;have:=hs.n2;have:=hs.n3;have:=hs.n4;omega,by have:=hs.p1;have:=hs.p2;have:=hs.p3;have:=hs.p4;have:=hs.p5;have:=hs.p6;have:=hs.p7;have:=hs.n1;have:=hs.n2;have:=hs.n3;have:=hs.n4;show _< (4294967296:Int);omega⟩;have b5:0<=s5/\s5< 256 ^ 4:=⟨by have:=hs.p1;have:=hs.p2;have:=hs.p3;have:=hs.p4;have:=hs.p5;have:=hs.p6;have:=hs.p7;have:=hs.n1;have:=hs.n2;have:=hs.n3;have:=hs.n4;omega,by have:=hs.p1;have:=hs.p2;have:=hs.p3;have:=hs.p4;have:=hs.p5;have:=hs.p6;have:=hs.p7;have:=hs.n1;have:=hs.n2;have:=hs.n3;have:=hs.n4;show _< (4294967296:Int);omega⟩;have b6:0<=s6/\s6< 256 ^ 4:=⟨by have:=hs.p1;have:=hs.p2;have:=hs.p3;have:=hs.p4;have:=hs.p5;have:=hs.p6;have:=hs.p7;have:=hs.n1;have:=hs.n2;have:=hs.n3;have:=hs.n4;omega,by have:=hs.p1;have:=hs.p2;have:=hs.p3;have:=hs.p4;have:=hs.p5;have:=hs.p6;have:=hs.p7;have:=hs.n1;have:=hs.n2;have:=hs.n3;have:=hs.n4;show _< (4294967296:Int);omega⟩;have b9:0<=s9/\s9< 256 ^ 4:=⟨by have:=hs.p1;have:=hs.p2;have:=hs.p3;have:=hs.p4;have:=hs.p5;have:=hs.p6;have:=hs.p7;have:=hs.n1;have:=hs.n2;have:=hs.n3;have:=hs.n4;omega,by have:=hs.p1;have:=hs.p2;have:=hs.p3;have:=hs.p4;have:=hs.p5;have:=hs.p6;have:=hs.p7;have:=hs.n1;have:=hs.n2;have:=hs.n3;have:=hs.n4;show _< (4294967296:Int);omega⟩;have b1:0<=s1/\s1< 256 ^ 2:=⟨by have:=hs.p1;have:=hs.p2;have:=hs.p3;have:=hs.p4;have:=hs.p5;have:=hs.p6;have:=hs.p7;have:=hs.n1;have:=hs.n2;have:=hs.n3;have:=hs.n4;omega,by have:=hs.p1;have:=hs.p2;have:=hs.p3;have:=hs.p4;have:=hs.p5;have:=hs.p6;have:=hs.p7;have:=hs.n1;have:=hs.n2;have:=hs.n3;have:=hs.n4;show _< (65536:Int);omega⟩;have b7:0<=s7/\s7< 256 ^ 2:=⟨by have:=hs.p1;have:=hs.p2;have:=hs.p3;have:=hs.p4;have:=hs.p5;have:=hs.p6;have:=hs.p7;have:=hs.n1;have:=hs.n2;have:=hs.n3;have:=hs.n4;omega,by have:=hs.p1;have:=hs.p2;have:=hs.p3;have:=hs.p4;have:=hs.p5;have:=hs.p6;have:=hs.p7;have:=hs.n1;have:=hs.n2;have:=hs.n3;have:=hs.n4;show _< (65536:Int);omega⟩;have b8:0<=s8/\s8< 256 ^ 2:=⟨by have:=hs.p1;have:=hs.p2;have:=hs.p3;have:=hs.p4;have:=hs.p5;have:=hs.p6;have:=hs.p7;have:=hs.n1;have:=hs.n2;have:=hs.n3;have:=hs.n4;omega,by have:=hs.p1;have:=hs.p2;have:=hs.p3;have:=hs.p4;have:=hs.p5;have:=hs.p6;have:=hs.p7;have:=hs.n1;have:=hs.n2;have:=hs.n3;have:=hs.n4;show _< (65536:Int);omega⟩;have hE:=lY T (s0,s1,s2,s3,s4,s5,s6,s7,s8,s9,());have Wc:(fF T (s0,s1,s2,s3,s4,s5,s6,s7,s8,s9,())++r).length=64+r.length:=by rw [af,hE]
 obtain ⟨r0,MY⟩:∃ r0,r0=aI 4 s0.toNat++(aI 4 s2.toNat++(aI 4 s3.toNat++(aI 4 s4.toNat++(aI 4 s5.toNat++(aI 4 s6.toNat++(aI 4 s9.toNat++(aI 2 s1.toNat++(aI 2 s7.toNat++(aI 2 s8.toNat++(aI 4 (cu T 0 (fR (s0,s1,s2,s3,s4,s5,s6,s7,s8,s9,()))).toNat++av 22 0)))))))))):=⟨_,rfl⟩;have GB:fF T (s0,s1,s2,s3,s4,s5,s6,s7,s8,s9,())=([76,77,76,65]:List UInt8)++r0:=by rw [MY];unfold fF fR;simp only [aG]
 have apK:r0.length=60:=by have:=congrArg List.length GB;rw [hE,af] at this;simp only [aq,aM] at this;omega
 obtain ⟨d1,d2,d3⟩:=H9 (x:=([76,77,76,65]:List UInt8)) (y:=r0) (n:=4) rfl;have PM:min ((fF T (s0,s1,s2,s3,s4,s5,s6,s7,s8,s9,())++r).length:Int) 64=64:=by rw [Wc];omega
 have htk:List.take (ax 64) (fF T (s0,s1,s2,s3,s4,s5,s6,s7,s8,s9,())++r)=fF T (s0,s1,s2,s3,s4,s5,s6,s7,s8,s9,()):=List.take_left' hE;rw [PM,htk,Wc];rw [GB,d1,d2,d3];refine λ_ _=>⟨by decide,by omega,by rw [<-GB,hE];decide,rfl,by decide,by rw [<-GB,hE];decide,λ_=>⟨by decide,?_⟩⟩;subst MY;have hz:(av 22 (0:UInt8)).length=22:=aS;rw [iv,ix,ef b0.1 b0.2];refine cV.intro (λi=>i.2.1.1=0/\i.2.1.2.1=aI 4 s2.toNat++(aI 4 s3.toNat++(aI 4 s4.toNat++(aI 4 s5.toNat++(aI 4 s6.toNat++(aI 4 s9.toNat++(aI 2 s1.toNat++(aI 2 s7.toNat++(aI 2 s8.toNat++(aI 4 (cu T 0 (fR (s0,s1,s2,s3,s4,s5,s6,s7,s8,s9,()))).toNat++av 22 0)))))))))/\i.2.2.1=(s0,0,0,0,0,0,0,0,0,0,())) ⟨by decide,by decide,by trivial,by decide,by decide,by simp only [af,aB,hz];decide,by simp only [af,aB,hz];decide,λ_=>⟨rfl,rfl,rfl⟩⟩ ?_;rintro ⟨_,⟨c,x,_⟩,y,_⟩ ⟨e1,e2,e3⟩;dsimp only at e1 e2 e3;subst e1 e2 e3;dsimp only;refine ⟨by unfold aF;decide,?_⟩;simp only [iv,ix,ef b2.1 b2.2];refine cV.intro (λi=>i.2.1.1=0/\i.2.1.2.1=aI 4 s3.toNat++(aI 4 s4.toNat++(aI 4 s5.toNat++(aI 4 s6.toNat++(aI 4 s9.toNat++(aI 2 s1.toNat++(aI 2 s7.toNat++(aI 2 s8.toNat++(aI 4 (cu T 0 (fR (s0,s1,s2,s3,s4,s5,s6,s7,s8,s9,()))).toNat++av 22 0))))))))/\i.2.2.1=(s0,0,s2,0,0,0,0,0,0,0,())) ⟨by decide,by decide,by trivial,by decide,by decide,by simp only [af,aB,hz];decide,by simp only [af,aB,hz];decide,λ_=>⟨rfl,rfl,rfl⟩⟩ ?_;rintro ⟨_,⟨c,x,_⟩,y,_⟩ ⟨e1,e2,e3⟩;dsimp only at e1 e2 e3;subst e1 e2 e3;dsimp only;refine ⟨by unfold aF;decide,?_⟩;simp only [iv,ix,ef b3.1 b3.2];refine cV.intro (λi=>i.2.1.1=0/\i.2.1.2.1=aI 4 s4.toNat++(aI 4 s5.toNat++(aI 4 s6.toNat++(aI 4 s9.toNat++(aI 2 s1.toNat++(aI 2 s7.toNat++(aI 2 s8.toNat++(aI 4 (cu T 0 (fR (s0,s1,s2,s3,s4,s5,s6,s7,s8,s9,()))).toNat++av 22 0)))))))/\i.2.2.1=(s0,0,s2,s3,0,0,0,0,0,0,())) ⟨by decide,by decide,by trivial,by decide,by decide,by simp only [af,aB,hz];decide,by simp only [af,aB,hz];decide,λ_=>⟨rfl,rfl,rfl⟩⟩ ?_;rintro ⟨_,⟨c,x,_⟩,y,_⟩ ⟨e1,e2,e3⟩;dsimp only at e1 e2 e3;subst e1 e2 e3;dsimp only;refine ⟨by unfold aF;decide,?_⟩;simp only [iv,ix,ef b4.1 b4.2];refine cV.intro (λi=>i.2.1.1=0/\i.2.1.2.1=aI 4 s5.toNat++(aI 4 s6.toNat++(aI 4 s9.toNat++(aI 2 s1.toNat++(aI 2 s7.toNat++(aI 2 s8.toNat++(aI 4 (cu T 0 (fR (s0,s1,s2,s3,s4,s5,s6,s7,s8,s9,()))).toNat++av 22 0))))))/\i.2.2.1=(s0,0,s2,s3,s4,0,0,0,0,0,())) ⟨by decide,by decide,by trivial,by decide,by decide,by simp only [af,aB,hz];decide,by simp only [af,aB,hz];decide,λ_=>⟨rfl,rfl,rfl⟩⟩ ?_;rintro ⟨_,⟨c,x,_⟩,y,_⟩ ⟨e1,e2,e3⟩;dsimp only at e1 e2 e3;subst e1 e2 e3;dsimp only;refine ⟨by unfold aF;decide,?_⟩;simp only [iv,ix,ef b5.1 b5.2];refine cV.intro (λi=>i.2.1.1=0/\i.2.1.2.1=aI 4 s6.toNat++(aI 4 s9.toNat++(aI 2 s1.toNat++(aI 2 s7.toNat++(aI 2 s8.toNat++(aI 4 (cu T 0 (fR (s0,s1,s2,s3,s4,s5,s6,s7,s8,s9,()))).toNat++av 22 0)))))/\i.2.2.1=(s0,0,s2,s3,s4,s5,0,0,0,0,())) ⟨by decide,by decide,by trivial,by decide,by decide,by simp only [af,aB,hz];decide,by simp only [af,aB,hz];decide,λ_=>⟨rfl,rfl,rfl⟩⟩ ?_;rintro ⟨_,⟨c,x,_⟩,y,_⟩ ⟨e1,e2,e3⟩;dsimp only at e1 e2 e3;subst e1 e2 e3;dsimp only;refine ⟨by unfold aF;decide,?_⟩;simp only [iv,ix,ef b6.1 b6.2];refine cV.intro (λi=>i.2.1.1=0/\i.2.1.2.1=aI 4 s9.toNat++(aI 2 s1.toNat++(aI 2 s7.toNat++(aI 2 s8.toNat++(aI 4 (cu T 0 (fR (s0,s1,s2,s3,s4,s5,s6,s7,s8,s9,()))).toNat++av 22 0))))/\i.2.2.1=(s0,0,s2,s3,s4,s5,s6,0,0,0,())) ⟨by decide,by decide,by trivial,by decide,by decide,by simp only [af,aB,hz];decide,by simp only [af,aB,hz];decide,λ_=>⟨rfl,rfl,rfl⟩⟩ ?_;rintro ⟨_,⟨c,x,_⟩,y,_⟩ ⟨e1,e2,e3⟩;dsimp only at e1 e2 e3;subst e1 e2 e3;dsimp only;refine ⟨by unfold aF;decide,?_⟩;simp only [iv,ix,ef b9.1 b9.2];refine cV.intro (λi=>i.2.1.1=0/\i.2.1.2.1=aI 2 s1.toNat++(aI 2 s7.toNat++(aI 2 s8.toNat++(aI 4 (cu T 0 (fR (s0,s1,s2,s3,s4,s5,s6,s7,s8,s9,()))).toNat++av 22 0)))/\i.2.2.1=(s0,0,s2,s3,s4,s5,s6,0,0,s9,())) ⟨by decide,by decide,by trivial,by decide,by decide,by simp only [af,aB,hz];decide,by simp only [af,aB,hz];decide,λ_=>⟨rfl,rfl,rfl⟩⟩ ?_;rintro ⟨_,⟨c,x,_⟩,y,_⟩ ⟨e1,e2,e3⟩;dsimp only at e1 e2 e3;subst e1 e2 e3;dsimp only;refine ⟨by unfold aF;decide,by decide,?_⟩;simp only [iv,ix,ef b1.1 b1.2];refine cV.intro (λi=>i.2.1.1=0/\i.2.1.2.1=aI 2 s7.toNat++(aI 2 s8.toNat++(aI 4 (cu T 0 (fR (s0,s1,s2,s3,s4,s5,s6,s7,s8,s9,()))).toNat++av 22 0))/\i.2.2.1=(s0,s1,s2,s3,s4,s5,s6,0,0,s9,())) ⟨by decide,by decide,by trivial,by decide,by decide,by simp only [af,aB,hz];decide,by simp only [af,aB,hz];decide,λ_=>⟨rfl,rfl,rfl⟩⟩ ?_;rintro ⟨_,⟨c,x,_⟩,y,_⟩ ⟨e1,e2,e3⟩;dsimp only at e1 e2 e3;subst e1 e2 e3;dsimp only;refine ⟨by unfold aF;decide,?_⟩;simp only [iv,ix,ef b7.1 b7.2];refine cV.intro (λi=>i.2.1.1=0/\i.2.1.2.1=aI 2 s8.toNat++(aI 4 (cu T 0 (fR (s0,s1,s2,s3,s4,s5,s6,s7,s8,s9,()))).toNat++av 22 0)/\i.2.2.1=(s0,s1,s2,s3,s4,s5,s6,s7,0,s9,())) ⟨by decide,by decide,by trivial,by decide,by decide,by simp only [af,aB,hz];decide,by simp only [af,aB,hz];decide,λ_=>⟨rfl,rfl,rfl⟩⟩ ?_;rintro ⟨_,⟨c,x,_⟩,y,_⟩ ⟨e1,e2,e3⟩;dsimp only at e1 e2 e3;subst e1 e2 e3;dsimp only;refine ⟨by unfold aF;decide,?_⟩;simp only [iv,ix,ef b8.1 b8.2];refine cV.intro (λi=>i.2.1.1=0/\i.2.1.2.1=aI 4 (cu T 0 (fR (s0,s1,s2,s3,s4,s5,s6,s7,s8,s9,()))).toNat++av 22 0/\i.2.2.1=(s0,s1,s2,s3,s4,s5,s6,s7,s8,s9,())) ⟨by decide,by decide,by trivial,by decide,by decide,by simp only [af,aB,hz];decide,by simp only [af,aB,hz];decide,λ_=>⟨rfl,rfl,rfl⟩⟩ ?_;rintro ⟨_,⟨c,x,_⟩,y,_⟩ ⟨e1,e2,e3⟩;dsimp only at e1 e2 e3;subst e1 e2 e3;dsimp only;refine ⟨by unfold aF;decide,?_⟩;have hc:=yS T 0 (fR (s0,s1,s2,s3,s4,s5,s6,s7,s8,s9,()));have hl4:(aI 4 (cu T 0 (fR (s0,s1,s2,s3,s4,s5,s6,s7,s8,s9,()))).toNat++av 22 (0:UInt8)).length=26:=by rw [af,aB,hz]
 have hB:=uV (s0,s1,s2,s3,s4,s5,s6,s7,s8,s9,());have htB:List.take (ax (64 - ((26:Nat):Int))) (fF T (s0,s1,s2,s3,s4,s5,s6,s7,s8,s9,())++r)=fR (s0,s1,s2,s3,s4,s5,s6,s7,s8,s9,()):=by
  unfold fF;rw [aG];exact List.take_left' hB
 obtain ⟨z1,z2⟩:=ahD (av 22 (0:UInt8));simp only [iv,ix,hl4,<-GB,htB,ae7 hc.1 hc.2,z1,z2,akQ,beq_self_eq_true];refine ⟨by trivial,λ_=>⟨by trivial,by decide,by decide,by decide,by decide,λ_ _=>⟨by trivial,λ_=>⟨by trivial,by omega,by rw [hz];decide,λ_ _=>aw (λhq=>by cases hq) (λ_=>λ_=>aw (λhq=>by have hq:=of_decide_eq_true hq;omega) (λ_=>aw (λ_=>⟨by unfold aF;decide,by decide,by omega,hT,λ_=>aw (λ_=>λ_=>aw (λ_=>⟨hs,λz hz=>List.eq_of_mem_replicate hz,h⟩) (λhq=>?_)) (λhq=>by cases hq)⟩) (λhq=>by cases hq)))⟩⟩⟩⟩;rw [Wc] at kr;exact absurd kr (by simpa using hq)
end Go.Proofs

namespace Go.Proofs
open Go.Shelf
def Tryz.MO:Go.Shelf.Ren:=⟨fun| 137=>181| 217=>225| 266=>241| n=>n,fun| 9=>9| 5=>5| 3=>3| n=>n,fun| n=>n⟩
theorem Tryz.adl:Go.Proofs.Lays.n137 cd Tryz.MO:= {
 mixed:=by kernel_rfl
 f137:=Tryz.func181.trans (congrArg some (by kernel_rfl))
 f217:=Tryz.func225.trans (congrArg some (by kernel_rfl))
 f266:=Tryz.func241.trans (congrArg some (by kernel_rfl))
 t3:=oT
 a3:=Tryz.isAgg3
 z3:=Tryz.sizeOf3
 v3:=Tryz.zeroValue3
 t5:=Tryz.underlying5
 a5:=Tryz.isAgg5
 z5:=Tryz.sizeOf5
 v5:=Tryz.zeroValue5
 t9:=Tryz.underlying9
 a9:=Tryz.isAgg9
 z9:=Tryz.sizeOf9
 v9:=Tryz.zeroValue9}
open Go.RowKit in
theorem Tryz.strings_IndexByte (s:ByteArray) (c:Int) (w:World):
  Calls cd 181 #[.string s,.int .u8 c] w λe w'=>e= .returned (.int .i64 (Lib.indexByte s.data.toList c.toNat.toUInt8))/\w'=w:=Any.strings_IndexByte Tryz.adl s c w
def Tryz.MN:Go.Shelf.Ren:=⟨fun| 189=>125| 125=>122| 257=>172| 128=>168| 129=>169| 294=>211| 295=>212| 296=>213| 297=>214| 298=>215| 299=>216| 216=>131| 300=>217| 301=>218| 328=>232| 329=>207| 330=>208| 331=>233| 332=>234| 215=>179| 343=>244| n=>n,fun| 28=>29| 3=>3| 46=>148| 0=>0| 51=>107| 53=>267| 4=>4| 183=>260| 182=>259| 131=>104| 5=>5| 9=>9| 218=>303| 222=>130| 228=>325| 229=>163| n=>n,fun| n=>n⟩
theorem Tryz.Sv:Go.Proofs.Lays.n189 cd Tryz.MN:= {
 mixed:=by kernel_rfl
 f125:=Tryz.func122.trans (congrArg some (by kernel_rfl))
 f128:=Tryz.func168.trans (congrArg some (by kernel_rfl))
 f129:=Tryz.func169.trans (congrArg some (by kernel_rfl))
 f189:=Tryz.func125.trans (congrArg some (by kernel_rfl))
 f215:=Tryz.func179.trans (congrArg some (by kernel_rfl))
 f216:=Tryz.func131.trans (congrArg some (by kernel_rfl))
 f257:=Tryz.func172.trans (congrArg some (by kernel_rfl))
 f294:=Tryz.func211.trans (congrArg some (by kernel_rfl))
 f295:=Tryz.func212.trans (congrArg some (by kernel_rfl))
 f296:=Tryz.func213.trans (congrArg some (by kernel_rfl))
 f297:=Tryz.func214.trans (congrArg some (by kernel_rfl))
 f298:=Tryz.func215.trans (congrArg some (by kernel_rfl))
 f299:=Tryz.func216.trans (congrArg some (by kernel_rfl))
 f300:=Tryz.func217.trans (congrArg some (by kernel_rfl))
 f301:=Tryz.func218.trans (congrArg some (by kernel_rfl))
 f328:=Tryz.func232.trans (congrArg some (by kernel_rfl))
 f329:=Tryz.func207.trans (congrArg some (by kernel_rfl))
 f330:=Tryz.func208.trans (congrArg some (by kernel_rfl))
 f331:=Tryz.func233.trans (congrArg some (by kernel_rfl))
 f332:=Tryz.func234.trans (congrArg some (by kernel_rfl))
 f343:=Tryz.func244.trans (congrArg some (by kernel_rfl))
 t0:=Tryz.underlying0
 a0:=Tryz.isAgg0
 z0:=Tryz.sizeOf0
 v0:=Tryz.zeroValue0
 t3:=oT
 a3:=Tryz.isAgg3
 z3:=Tryz.sizeOf3
 v3:=Tryz.zeroValue3
 t4:=Tryz.underlying4
 a4:=Tryz.isAgg4
 z4:=Tryz.sizeOf4
 v4:=Tryz.zeroValue4
 t5:=Tryz.underlying5
 a5:=Tryz.isAgg5
 z5:=Tryz.sizeOf5
 v5:=Tryz.zeroValue5
 t9:=Tryz.underlying9
 a9:=Tryz.isAgg9
 z9:=Tryz.sizeOf9
 v9:=Tryz.zeroValue9
 t28:=Tryz.underlying29
 a28:=Tryz.isAgg29
 z28:=Tryz.sizeOf29
 v28:=Tryz.zeroValue29
 t46:=Tryz.underlying148
 a46:=Tryz.isAgg148
 z46:=Tryz.sizeOf148
 v46:=Tryz.zeroValue148
 t51:=Tryz.underlying107
 a51:=Tryz.isAgg107
 z51:=Tryz.sizeOf107
 v51:=Tryz.zeroValue107
 t53:=Tryz.underlying267
 a53:=Tryz.isAgg267
 z53:=Tryz.sizeOf267
 v53:=Tryz.zeroValue267
 t131:=Tryz.underlying104
 a131:=Tryz.isAgg104
 z131:=Tryz.sizeOf104
 v131:=Tryz.zeroValue104
 t182:=Tryz.underlying259
 a182:=Tryz.isAgg259
 z182:=Tryz.sizeOf259
 v182:=Tryz.zeroValue259
 t183:=Tryz.underlying260
 a183:=Tryz.isAgg260
 z183:=Tryz.sizeOf260
 v183:=Tryz.zeroValue260
 t218:=Tryz.underlying303
 a218:=Tryz.isAgg303
 z218:=Tryz.sizeOf303
 v218:=Tryz.zeroValue303
 t222:=Tryz.underlying130
 a222:=Tryz.isAgg130
 z222:=Tryz.sizeOf130
 v222:=Tryz.zeroValue130
 t228:=Tryz.underlying325
 a228:=Tryz.isAgg325
 z228:=Tryz.sizeOf325
 v228:=Tryz.zeroValue325
 t229:=Tryz.underlying163
 a229:=Tryz.isAgg163
 z229:=Tryz.sizeOf163
 v229:=Tryz.zeroValue163}
open Go.Sort Go.RowKit in
theorem Tryz.slices_Sort_int (oP off cap:Nat) (zs:List Int) (w:World) (hH:Holds (Value.int .i64) w oP off zs.toArray) (hblk:oP< w.heap.size) (kr:zs.length< 4611686018427387904):
  Calls cd 125 #[.slice (some ⟨oP,off,none⟩) zs.length cap] w λe w'=>
   e= .returned (.tuple #[])/\∃ n os,w'=grow (putRow (Value.int .i64) (Sort.ahead w n) oP off (zs.mergeSort λx y=>decide (x<=y)).toArray) os:=Any.slices_Sort_int Tryz.Sv oP off cap zs w hH hblk kr
open Go.RowKit Go.Sort in
theorem Tryz.slices_Sort_int_none (p:Option Addr) (cap:Nat) (w:World):
  Calls cd 125 #[.slice p 0 cap] w λe w'=>e= .returned (.tuple #[])/\w'=w:=Any.slices_Sort_int_none Tryz.Sv p cap w
end Go.Proofs

namespace Go.Lm
open Go
abbrev bP:Ty:=.pair .Vr (.pair (.int .i64) (.pair (.int .i64) .unit))
abbrev eE:Ty:=.pair (.int .i64) (.pair (.int .i64) (.pair (.int .i64) (.pair (.int .i64) (.pair (.int .i64) (.pair (.int .i64) (.pair (.int .i64) (.pair (.int .i64) (.pair (.int .i64) (.pair (.int .i64) (.pair .str .unit))))))))))
abbrev wC (F:List (Int×eE.den)):HO:=.map 3 .int eE F
structure DO (mo ui gi lk xa:Int):Prop where
 q1:0<=mo/\mo<=511
 q2:0<=ui/\ui<=2047
 q3:0<=gi/\gi<=2047
 q4:1<=lk/\lk<=1024
 q5:0<=xa/\xa<=4294967295
structure TZ (st sz:Int):Prop where
 r1:0<=st/\st<=4294967295
 r2:0<=sz/\sz<=1048576
structure zq (st sz fr off:Int):Prop where
 r1:0<=st/\st<=4294967295
 r2:0<=sz/\sz<=4096
 r3:0<=fr/\fr<=1024
 r4:0<=off/\off<=127
 tail:(0< fr↔0< sz % 128)/\(0< sz % 128\/off=0)
structure zp (z:ByteArray):Prop where
 len:0< z.size/\z.size<=200
 nul:∀ x∈z.data.toList,x≠0
def Zv (k mo ui gi lk xa:Int):List UInt8:=aI 1 k.toNat++(aI 2 mo.toNat++(aI 2 ui.toNat++(aI 2 gi.toNat++(aI 2 lk.toNat++aI 4 xa.toNat))))
theorem xg (k mo ui gi lk xa:Int):(Zv k mo ui gi lk xa).length=13:=by unfold Zv;simp only [af,aB]
def OS (mo ui gi xa st sz:Int):List UInt8:=Zv 1 mo ui gi 1 xa++(aI 4 st.toNat++aI 4 sz.toNat)
def OR (mo ui gi lk xa st sz fr off:Int):List UInt8:=Zv 2 mo ui gi lk xa++(aI 4 st.toNat++(aI 2 sz.toNat++(aI 2 fr.toNat++aI 1 off.toNat)))
def Mb (mo ui gi lk xa:Int) (z:ByteArray):List UInt8:=Zv 3 mo ui gi lk xa++(az z.size::z.data.toList)
theorem kq {x m:Int} {P R:Prop} (h0:0<=x) (h1:x<=m) (h:R):br (decide (x< 0)) P (br (decide (x>m)) P R):=
 aw (λhc=>absurd (of_decide_eq_true hc) (by omega)) (λ_=>aw (λhc=>absurd (of_decide_eq_true hc) (by omega)) (λ_=>h))
theorem PY (k a b c d e f g h i:Int) (z:ByteArray):(!(k==k&& (a==a&& (b==b&& (c==c&& (d==d&& (e==e&& (f==f&& (g==g&& (h==h&& (i==i&& (mJ z z&& true))))))))))))=false:=by
 simp [mJ]
theorem ahM {l:List UInt8} (h:∀ x∈l,x≠0):decide (Lib.indexByte l 0< 0)=true:=by
 rw [yK];simp only [bY,List.any_eq_false,beq_iff_eq];exact h
theorem LA (n x:Nat):List.take n (aI n x)=aI n x:=aT (by rw [aB];exact ay _)
theorem Np (n x:Nat):List.drop n (aI n x)= []:=j4 (by rw [aB];exact ay _)
theorem zb (z:ByteArray):fD z.data.toList=z:=rfl
structure oO (i:eE.den):Prop where
 cm:DO i.2.1 i.2.2.1 i.2.2.2.1 i.2.2.2.2.1 i.2.2.2.2.2.1
 or:(i.1=1/\TZ i.2.2.2.2.2.2.1 i.2.2.2.2.2.2.2.1/\i.2.2.2.2.1=1/\i.2.2.2.2.2.2.2.2.1=0/\i.2.2.2.2.2.2.2.2.2.1=0/\i.2.2.2.2.2.2.2.2.2.2.1=⟨#[]⟩)\/
  (i.1=2/\zq i.2.2.2.2.2.2.1 i.2.2.2.2.2.2.2.1 i.2.2.2.2.2.2.2.2.1 i.2.2.2.2.2.2.2.2.2.1/\i.2.2.2.2.2.2.2.2.2.2.1=⟨#[]⟩)\/
  (i.1=3/\zp i.2.2.2.2.2.2.2.2.2.2.1/\i.2.2.2.2.2.2.1=0/\i.2.2.2.2.2.2.2.1=0/\i.2.2.2.2.2.2.2.2.1=0/\i.2.2.2.2.2.2.2.2.2.1=0)
def fK (i:eE.den):List UInt8:=
 if i.1=1 then OS i.2.1 i.2.2.1 i.2.2.2.1 i.2.2.2.2.2.1 i.2.2.2.2.2.2.1 i.2.2.2.2.2.2.2.1
 else if i.1=2 then OR i.2.1 i.2.2.1 i.2.2.2.1 i.2.2.2.2.1 i.2.2.2.2.2.1 i.2.2.2.2.2.2.1 i.2.2.2.2.2.2.2.1 i.2.2.2.2.2.2.2.2.1 i.2.2.2.2.2.2.2.2.2.1
 else Mb i.2.1 i.2.2.1 i.2.2.2.1 i.2.2.2.2.1 i.2.2.2.2.2.1 i.2.2.2.2.2.2.2.2.2.2.1
theorem pc.ok {fs:List (List UInt8)} {R:List UInt8} {o n:Nat} {z:List UInt8} {nx e:Int} (h:pc fs R o n z nx e) (hl:o+n<=R.length):z=(R.drop o).take n/\nx=(dU fs (o+n):Nat)/\e=0:=by
 rcases h.or with ⟨_,h1,h2,h3⟩| ⟨h1,_⟩;exact ⟨h1,h2,h3⟩;omega
def uW:List bP.den->Int
 | []=>0
 | (_,n,_)::r=>n+uW r
theorem LD:∀ (l:List bP.den) (x:bP.den),uW (l++ [x])=uW l+x.2.1
 | [],(_,n,_)=>Int.add_comm (n:Int) 0
 | (_,m,_)::l,x=>by
  have:=LD l x;show m+uW (l++ [x])=m+uW l+x.2.1;rw [this];exact (Int.add_assoc m (uW l) x.2.1).symm
theorem Us {l:List bP.den} {j:Int} (h0:0<=j) (h1:j< (l.length:Int)):uW (l.take (j+1).toNat)=uW (l.take j.toNat)+(aK bP l j).2.1:=by
 rw [ixT h0 h1,LD]
theorem acE {n s:Int} {L:Nat} (h:0<=n/\n<=4) (k:0<=s/\s<=4*L):0<=n+s/\n+s<=4*((L+1:Nat):Int):=by omega
theorem RH:∀ {l:List bP.den} (j:Nat),(∀ x∈l,0<=(x.2.1:Int)/\(x.2.1:Int)<=4)->0<=uW (l.take j)/\uW (l.take j)<=4*l.length
 | [],j,_=>by simp [uW]
 | x::r,0,_=>by simp only [List.take_zero,uW,aq];omega
 | (f,n,m)::r,j+1,h=>by
  have h2:=RH (l:=r) j λy hy=>h y (aH _ hy);simp only [List.take_succ_cons,uW,aq];exact acE (h _ aX) h2
theorem RV {i:eE.den} (h:oO i):(fK i).length=if i.1=1 then 21 else if i.1=2 then 22 else 14+i.2.2.2.2.2.2.2.2.2.2.1.size:=by
 unfold fK;rcases h.or with ⟨e,_⟩| ⟨e,_⟩| ⟨e,_⟩;rw [if_pos e,if_pos e];unfold OS;simp only [af,xg,aB];rw [if_neg (by rw [e];decide),if_pos e,if_neg (by rw [e];decide),if_pos e];unfold OR;simp only [af,xg,aB]
 .rw [if_neg (by rw [e];decide),if_neg (by rw [e];decide),if_neg (by rw [e];decide),if_neg (by rw [e];decide)];unfold Mb;simp only [af,xg,aq,<-kz];omega
theorem Ma {i:eE.den} (h:oO i):∃ t,fK i=az i.1.toNat::t:=by
 unfold fK;rcases h.or with ⟨e,_⟩| ⟨e,_⟩| ⟨e,_⟩;rw [if_pos e,e];exact ⟨_,rfl⟩;rw [if_neg (by rw [e];decide),if_pos e,e];exact ⟨_,rfl⟩;rw [if_neg (by rw [e];decide),if_neg (by rw [e];decide),e];exact ⟨_,rfl⟩
theorem acV {i:eE.den} (e:i.1=3):(fK i)[13]?=some (az i.2.2.2.2.2.2.2.2.2.2.1.size):=by
 unfold fK;rw [if_neg (by rw [e];decide),if_neg (by rw [e];decide)];unfold Mb;rw [a8 (by rw [xg];exact ay _),xg];rfl
end Go.Lm

namespace Go.Proofs
open Go Go.Lm Go.RowKit
set_option maxRecDepth 1000000
def ad0:List bP.den:=[(182,2,511,()),(183,2,2047,()),(184,2,2047,()),(185,2,1024,()),(186,4,4294967295,())]
def oG (k:Int):List bP.den:=if k=2 then [(187,4,4294967295,()),(188,2,4096,()),(189,2,1024,()),(190,1,127,())] else if k=1 then [(187,4,4294967295,()),(188,4,1048576,())] else []
def gO:List (Nat×Ty):=(227,bP)::(80,eE)::jf
def al3:Ct:=cP<| cO λH Q=>match H with
 | [.cells 80 [.k (.int .i64 k0),.k (.int .i64 mo),.k (.int .i64 ui),.k (.int .i64 gi),.k (.int .i64 lk),.k (.int .i64 xa),.k (.int .i64 st),.k (.int .i64 sz),.k (.int .i64 fr),.k (.int .i64 off),.k (.string tg)]]=>Q (.c (.p 0 1)) [.cells 80 [.k (.int .i64 k0),.k (.int .i64 mo),.k (.int .i64 ui),.k (.int .i64 gi),.k (.int .i64 lk),.k (.int .i64 xa),.k (.int .i64 st),.k (.int .i64 sz),.k (.int .i64 fr),.k (.int .i64 off),.k (.string tg)]]
 | _=>False
def abc:=afS.add zt
def Xo (k0 mo ui gi lk xa st sz fr off:Int) (tg:ByteArray):dE:=λQ=>Q (SV.v (S1.c (.p 0 1))) [.cells 80 [.k (aC k0),.k (aC mo),.k (aC ui),.k (aC gi),.k (aC lk),.k (aC xa),.k (aC st),.k (aC sz),.k (aC fr),.k (aC off),.k (.string tg)]]
theorem akt:cG 182 al3:=fz<| rJ<| rK λH Q h=>by
 split at h;rotate_left;cases h;rename_i k0 mo ui gi lk xa st sz fr off tg;refine Wp.dJ abc gO ⟨[],[]⟩ Tryz.f182 (Xo k0 mo ui gi lk xa st sz fr off tg) ?_;unfold Xo aC;exact h
def al2:Ct:=cP<| cO λH Q=>match H with
 | [.cells 80 [.k (.int .i64 k0),.k (.int .i64 mo),.k (.int .i64 ui),.k (.int .i64 gi),.k (.int .i64 lk),.k (.int .i64 xa),.k (.int .i64 st),.k (.int .i64 sz),.k (.int .i64 fr),.k (.int .i64 off),.k (.string tg)]]=>Q (.c (.p 0 2)) [.cells 80 [.k (.int .i64 k0),.k (.int .i64 mo),.k (.int .i64 ui),.k (.int .i64 gi),.k (.int .i64 lk),.k (.int .i64 xa),.k (.int .i64 st),.k (.int .i64 sz),.k (.int .i64 fr),.k (.int .i64 off),.k (.string tg)]]
 | _=>False
def abb:=abc.add akt
def Xn (k0 mo ui gi lk xa st sz fr off:Int) (tg:ByteArray):dE:=λQ=>Q (SV.v (S1.c (.p 0 2))) [.cells 80 [.k (aC k0),.k (aC mo),.k (aC ui),.k (aC gi),.k (aC lk),.k (aC xa),.k (aC st),.k (aC sz),.k (aC fr),.k (aC off),.k (.string tg)]]
theorem aks:cG 183 al2:=fz<| rJ<| rK λH Q h=>by
 split at h;rotate_left;cases h;rename_i k0 mo ui gi lk xa st sz fr off tg;refine Wp.dJ abb gO ⟨[],[]⟩ Tryz.f183 (Xn k0 mo ui gi lk xa st sz fr off tg) ?_;unfold Xn aC;exact h
def al1:Ct:=cP<| cO λH Q=>match H with
 | [.cells 80 [.k (.int .i64 k0),.k (.int .i64 mo),.k (.int .i64 ui),.k (.int .i64 gi),.k (.int .i64 lk),.k (.int .i64 xa),.k (.int .i64 st),.k (.int .i64 sz),.k (.int .i64 fr),.k (.int .i64 off),.k (.string tg)]]=>Q (.c (.p 0 3)) [.cells 80 [.k (.int .i64 k0),.k (.int .i64 mo),.k (.int .i64 ui),.k (.int .i64 gi),.k (.int .i64 lk),.k (.int .i64 xa),.k (.int .i64 st),.k (.int .i64 sz),.k (.int .i64 fr),.k (.int .i64 off),.k (.string tg)]]
 | _=>False
def aba:=abb.add aks
def Xm (k0 mo ui gi lk xa st sz fr off:Int) (tg:ByteArray):dE:=λQ=>Q (SV.v (S1.c (.p 0 3))) [.cells 80 [.k (aC k0),.k (aC mo),.k (aC ui),.k (aC gi),.k (aC lk),.k (aC xa),.k (aC st),.k (aC sz),.k (aC fr),.k (aC off),.k (.string tg)]]
theorem akr:cG 184 al1:=fz<| rJ<| rK λH Q h=>by
 split at h;rotate_left;cases h;rename_i k0 mo ui gi lk xa st sz fr off tg;refine Wp.dJ aba gO ⟨[],[]⟩ Tryz.f184 (Xm k0 mo ui gi lk xa st sz fr off tg) ?_;unfold Xm aC;exact h
def al0:Ct:=cP<| cO λH Q=>match H with
 | [.cells 80 [.k (.int .i64 k0),.k (.int .i64 mo),.k (.int .i64 ui),.k (.int .i64 gi),.k (.int .i64 lk),.k (.int .i64 xa),.k (.int .i64 st),.k (.int .i64 sz),.k (.int .i64 fr),.k (.int .i64 off),.k (.string tg)]]=>Q (.c (.p 0 4)) [.cells 80 [.k (.int .i64 k0),.k (.int .i64 mo),.k (.int .i64 ui),.k (.int .i64 gi),.k (.int .i64 lk),.k (.int .i64 xa),.k (.int .i64 st),.k (.int .i64 sz),.k (.int .i64 fr),.k (.int .i64 off),.k (.string tg)]]
 | _=>False
def aa9:=aba.add akr
def Xl (k0 mo ui gi lk xa st sz fr off:Int) (tg:ByteArray):dE:=λQ=>Q (SV.v (S1.c (.p 0 4))) [.cells 80 [.k (aC k0),.k (aC mo),.k (aC ui),.k (aC gi),.k (aC lk),.k (aC xa),.k (aC st),.k (aC sz),.k (aC fr),.k (aC off),.k (.string tg)]]
theorem akq:cG 185 al0:=fz<| rJ<| rK λH Q h=>by
 split at h;rotate_left;cases h;rename_i k0 mo ui gi lk xa st sz fr off tg;refine Wp.dJ aa9 gO ⟨[],[]⟩ Tryz.f185 (Xl k0 mo ui gi lk xa st sz fr off tg) ?_;unfold Xl aC;exact h
def alZ:Ct:=cP<| cO λH Q=>match H with
 | [.cells 80 [.k (.int .i64 k0),.k (.int .i64 mo),.k (.int .i64 ui),.k (.int .i64 gi),.k (.int .i64 lk),.k (.int .i64 xa),.k (.int .i64 st),.k (.int .i64 sz),.k (.int .i64 fr),.k (.int .i64 off),.k (.string tg)]]=>Q (.c (.p 0 5)) [.cells 80 [.k (.int .i64 k0),.k (.int .i64 mo),.k (.int .i64 ui),.k (.int .i64 gi),.k (.int .i64 lk),.k (.int .i64 xa),.k (.int .i64 st),.k (.int .i64 sz),.k (.int .i64 fr),.k (.int .i64 off),.k (.string tg)]]
 | _=>False
def aa8:=aa9.add akq
def Xk (k0 mo ui gi lk xa st sz fr off:Int) (tg:ByteArray):dE:=λQ=>Q (SV.v (S1.c (.p 0 5))) [.cells 80 [.k (aC k0),.k (aC mo),.k (aC ui),.k (aC gi),.k (aC lk),.k (aC xa),.k (aC st),.k (aC sz),.k (aC fr),.k (aC off),.k (.string tg)]]
theorem akp:cG 186 alZ:=fz<| rJ<| rK λH Q h=>by
 split at h;rotate_left;cases h;rename_i k0 mo ui gi lk xa st sz fr off tg;refine Wp.dJ aa8 gO ⟨[],[]⟩ Tryz.f186 (Xk k0 mo ui gi lk xa st sz fr off tg) ?_;unfold Xk aC;exact h
def alY:Ct:=cP<| cO λH Q=>match H with
 | [.cells 80 [.k (.int .i64 k0),.k (.int .i64 mo),.k (.int .i64 ui),.k (.int .i64 gi),.k (.int .i64 lk),.k (.int .i64 xa),.k (.int .i64 st),.k (.int .i64 sz),.k (.int .i64 fr),.k (.int .i64 off),.k (.string tg)]]=>Q (.c (.p 0 6)) [.cells 80 [.k (.int .i64 k0),.k (.int .i64 mo),.k (.int .i64 ui),.k (.int .i64 gi),.k (.int .i64 lk),.k (.int .i64 xa),.k (.int .i64 st),.k (.int .i64 sz),.k (.int .i64 fr),.k (.int .i64 off),.k (.string tg)]]
 | _=>False
def aa7:=aa8.add akp
def Xj (k0 mo ui gi lk xa st sz fr off:Int) (tg:ByteArray):dE:=λQ=>Q (SV.v (S1.c (.p 0 6))) [.cells 80 [.k (aC k0),.k (aC mo),.k (aC ui),.k (aC gi),.k (aC lk),.k (aC xa),.k (aC st),.k (aC sz),.k (aC fr),.k (aC off),.k (.string tg)]]
theorem ako:cG 187 alY:=fz<| rJ<| rK λH Q h=>by
 split at h;rotate_left;cases h;rename_i k0 mo ui gi lk xa st sz fr off tg;refine Wp.dJ aa7 gO ⟨[],[]⟩ Tryz.f187 (Xj k0 mo ui gi lk xa st sz fr off tg) ?_;unfold Xj aC;exact h
def alX:Ct:=cP<| cO λH Q=>match H with
 | [.cells 80 [.k (.int .i64 k0),.k (.int .i64 mo),.k (.int .i64 ui),.k (.int .i64 gi),.k (.int .i64 lk),.k (.int .i64 xa),.k (.int .i64 st),.k (.int .i64 sz),.k (.int .i64 fr),.k (.int .i64 off),.k (.string tg)]]=>Q (.c (.p 0 7)) [.cells 80 [.k (.int .i64 k0),.k (.int .i64 mo),.k (.int .i64 ui),.k (.int .i64 gi),.k (.int .i64 lk),.k (.int .i64 xa),.k (.int .i64 st),.k (.int .i64 sz),.k (.int .i64 fr),.k (.int .i64 off),.k (.string tg)]]
 | _=>False
def aa6:=aa7.add ako
def Xi (k0 mo ui gi lk xa st sz fr off:Int) (tg:ByteArray):dE:=λQ=>Q (SV.v (S1.c (.p 0 7))) [.cells 80 [.k (aC k0),.k (aC mo),.k (aC ui),.k (aC gi),.k (aC lk),.k (aC xa),.k (aC st),.k (aC sz),.k (aC fr),.k (aC off),.k (.string tg)]]
theorem akn:cG 188 alX:=fz<| rJ<| rK λH Q h=>by
 split at h;rotate_left;cases h;rename_i k0 mo ui gi lk xa st sz fr off tg;refine Wp.dJ aa6 gO ⟨[],[]⟩ Tryz.f188 (Xi k0 mo ui gi lk xa st sz fr off tg) ?_;unfold Xi aC;exact h
def alW:Ct:=cP<| cO λH Q=>match H with
 | [.cells 80 [.k (.int .i64 k0),.k (.int .i64 mo),.k (.int .i64 ui),.k (.int .i64 gi),.k (.int .i64 lk),.k (.int .i64 xa),.k (.int .i64 st),.k (.int .i64 sz),.k (.int .i64 fr),.k (.int .i64 off),.k (.string tg)]]=>Q (.c (.p 0 8)) [.cells 80 [.k (.int .i64 k0),.k (.int .i64 mo),.k (.int .i64 ui),.k (.int .i64 gi),.k (.int .i64 lk),.k (.int .i64 xa),.k (.int .i64 st),.k (.int .i64 sz),.k (.int .i64 fr),.k (.int .i64 off),.k (.string tg)]]
 | _=>False
def aa5:=aa6.add akn
def Xh (k0 mo ui gi lk xa st sz fr off:Int) (tg:ByteArray):dE:=λQ=>Q (SV.v (S1.c (.p 0 8))) [.cells 80 [.k (aC k0),.k (aC mo),.k (aC ui),.k (aC gi),.k (aC lk),.k (aC xa),.k (aC st),.k (aC sz),.k (aC fr),.k (aC off),.k (.string tg)]]
theorem akm:cG 189 alW:=fz<| rJ<| rK λH Q h=>by
 split at h;rotate_left;cases h;rename_i k0 mo ui gi lk xa st sz fr off tg;refine Wp.dJ aa5 gO ⟨[],[]⟩ Tryz.f189 (Xh k0 mo ui gi lk xa st sz fr off tg) ?_;unfold Xh aC;exact h
def alV:Ct:=cP<| cO λH Q=>match H with
 | [.cells 80 [.k (.int .i64 k0),.k (.int .i64 mo),.k (.int .i64 ui),.k (.int .i64 gi),.k (.int .i64 lk),.k (.int .i64 xa),.k (.int .i64 st),.k (.int .i64 sz),.k (.int .i64 fr),.k (.int .i64 off),.k (.string tg)]]=>Q (.c (.p 0 9)) [.cells 80 [.k (.int .i64 k0),.k (.int .i64 mo),.k (.int .i64 ui),.k (.int .i64 gi),.k (.int .i64 lk),.k (.int .i64 xa),.k (.int .i64 st),.k (.int .i64 sz),.k (.int .i64 fr),.k (.int .i64 off),.k (.string tg)]]
 | _=>False
def aa4:=aa5.add akm
def Xg (k0 mo ui gi lk xa st sz fr off:Int) (tg:ByteArray):dE:=λQ=>Q (SV.v (S1.c (.p 0 9))) [.cells 80 [.k (aC k0),.k (aC mo),.k (aC ui),.k (aC gi),.k (aC lk),.k (aC xa),.k (aC st),.k (aC sz),.k (aC fr),.k (aC off),.k (.string tg)]]
theorem akl:cG 190 alV:=fz<| rJ<| rK λH Q h=>by
 split at h;rotate_left;cases h;rename_i k0 mo ui gi lk xa st sz fr off tg;refine Wp.dJ aa4 gO ⟨[],[]⟩ Tryz.f190 (Xg k0 mo ui gi lk xa st sz fr off tg) ?_;unfold Xg aC;exact h
def Z6:Ct:=c0 λQ=>Q (.c (.o 0)) [.sl 227 bP ad0]
def aa3:=aa4.add akl
def Fv:dE:=
 λQ=>Q gA [.sl 227 bP [((182:Nat),di,(511:Int),()),((183:Nat),di,(2047:Int),()),((184:Nat),di,(2047:Int),()),((185:Nat),di,(1024:Int),()),((186:Nat),cC,(4294967295:Int),())]]
theorem WY:cG 135 Z6:=fz<| iQ λQ h=>by
 refine Wp.dJ aa3 gO ⟨[],[]⟩ Tryz.f135 Fv ?_;unfold Fv gA di cC;exact h
def ZW:Ct:=cI λk=>c0 λQ=>Q (.c (.o 0)) [.sl 227 bP (oG k)]
def aa2:=aa3.add WY
def Fm (k:Int):dE:=λQ=>aF .i64 k->br (k==2) (Q gA [.sl 227 bP [((187:Nat),cC,(4294967295:Int),()),((188:Nat),di,(4096:Int),()),((189:Nat),di,(1024:Int),()),((190:Nat),bd,(127:Int),())]]) (br (k== 
 1) (Q gA [.sl 227 bP [((187:Nat),cC,(4294967295:Int),()),((188:Nat),cC,(1048576:Int),())]]) (Q gy []))
theorem vY:cG 136 ZW:=fz<| nG λk=>iQ λQ h=>by
 refine Wp.IM (t:=227) (e:=bP) ?_;refine Wp.dJ aa2 gO ⟨[],[]⟩ Tryz.f136 (Fm k) ?_;unfold Fm gy gA dL bd di cC;unfold oG at h;refine λ_=>aw (λhc=>.inl ?_) (λhc=>aw (λhd=>.inl ?_) (λhd=>.inr ⟨rfl,?_⟩));rw [if_pos (eq_of_beq hc)] at h;exact h;rw [if_neg (by simpa using hc),if_pos (eq_of_beq hd)] at h;exact h;rw [if_neg (by simpa using hc),if_neg (by simpa using hd)] at h;exact h
def ND:Ct
 | [.v (.c (.k (.string s))),.v (.c (.k (.int .u8 c)))],[],Q=>Q (.int (Lib.indexByte s.data.toList c.toNat.toUInt8)) []
 | _,_,_=>False
theorem J9:cG 181 ND:=by
 intro args H Q h;unfold ND at h;split at h
 .rename_i s c;refine Wp.Sd (λE g w vs m hv=>?_) h;obtain ⟨u,v,rfl,⟨rfl,hs⟩,⟨rfl,_⟩⟩:=nK hv;refine (Hs.of (Tryz.strings_IndexByte s c w)).mono λx w' ⟨h1,h2⟩=>⟨?_,by rw [h2];exact Le.refl w⟩;rw [h1];refine dB ?_;have:=Ji s.data.toList c.toNat.toUInt8;have hs':s.data.toList.length<=9223372036854775807:=by rw [<-kz];exact hs
  unfold aF;omega
 .cases h
def NT:Ct
 | [.v (.agg [.k (.int .i64 1),.k (.int .i64 mo),.k (.int .i64 ui),.k (.int .i64 gi),.k (.int .i64 lk),.k (.int .i64 xa),.k (.int .i64 st),.k (.int .i64 sz),.k (.int .i64 fr),.k (.int .i64 off),.k (.string tg)])],[],Q=>DO mo ui gi lk xa/\TZ st sz/\lk=1/\fr=0/\off=0/\tg=⟨#[]⟩/\Q (.bool true) []
 | _,_,_=>False
def aa1:=(aa2.add vY).add J9
abbrev uD:=ad0++oG bd
abbrev nq:=aK bP uD ah
abbrev nk:=aK bP uD dG
abbrev nj:=aK bP uD dP
abbrev ni:=aK bP uD dY
abbrev nh:=aK bP uD eX
abbrev ng:=aK bP uD fT
abbrev nf:=aK bP uD lg
abbrev iz:=ByteArray.mk #[]
def Fl (mo ui gi lk xa st sz fr off:Int) (tg:ByteArray):dE:=λQ=>aF .i64 1->cA mo ui gi (cA lk xa st (cA sz fr off (aL (dr tg)->(168:Nat)<=cw/\jX<=eW/\(jX<=eW->ma (ma (Ty.ok bP nq->br (cR mo) (bc Q) 
 (br (decide (mo>nq.2.2.1)) (bc Q) (aF .i64 dG/\pJ (pJ (Ty.ok bP nk->br (cR ui) (bc Q) (br (decide (ui>nk.2.2.1)) (bc Q) (aF .i64 dP/\pM (pM (Ty.ok bP nj->br (cR gi) 
 (bc Q) (br (decide (gi>nj.2.2.1)) (bc Q) (aF .i64 dY/\pO (pO (Ty.ok bP ni->br (cR lk) (bc Q) (br (decide (lk>ni.2.2.1)) (bc Q) (aF .i64 eX/\fS (l5 (fS (l5 (Ty.ok bP 
 nh->br (cR xa) (bc Q) (br (decide (xa>nh.2.2.1)) (bc Q) (aF .i64 fT/\pQ (pQ (Ty.ok bP ng->br (cR st) (bc Q) (br (decide (st>ng.2.2.1)) (bc Q) (aF .i64 lg/\pR (pR (Ty.ok 
 bP nf->br (cR sz) (bc Q) (br (decide (sz>nf.2.2.1)) (bc Q) (po (br (!(bd==1&& (mo==mo&& (ui==ui&& (gi==gi&& (lk==lk&& (xa==xa&& (st==st&& (sz==sz&& (ah==fr&& (ah==off&& 
 (mJ iz tg&& true)))))))))))) (bc Q) (br (decide (lk< 1)) (bc Q) (Q (.v (.c (.k (.bool (lk==1))))) [])))))))))))))))))))))))))))))))))))))
theorem Kr:cG 134 NT:=by
 intro args H Q h;unfold NT at h;split at h;rotate_left;cases h;rename_i mo ui gi lk xa st sz fr off tg;refine Wp.dJ aa1 gO ⟨[],[]⟩ Tryz.f134 (Fl mo ui gi lk xa st sz fr off tg) (unr:=[(5,11)]) ?_;unfold Fl iz l5 po nf ng nh ni nj nk nq ma bc dr cR pJ pM dG pO fS pQ eW pR dP lg cw dY fT eX uD cA kQ ah bd aL jX;obtain ⟨ff,hk,rfl,rfl,rfl,rfl,h⟩:=h;refine λ_ _ _ _ _ _ _ _ _ _ _=>⟨by decide,by decide,λ_=>?_⟩;refine ⟨by decide,by decide,by decide,by decide,λ_=>kq ff.q1.1 ff.q1.2 ⟨by unfold aF;decide,?_⟩⟩;refine ⟨by decide,by decide,by decide,by decide,λ_=>kq ff.q2.1 ff.q2.2 ⟨by unfold aF;decide,?_⟩⟩;refine ⟨by decide,by decide,by decide,by decide,λ_=>kq ff.q3.1 ff.q3.2 ⟨by unfold aF;decide,?_⟩⟩;refine ⟨by decide,by decide,by decide,by decide,λ_=>kq (⟨by decide,by decide⟩:0<=(1:Int)/\(1:Int)<=1024).1 (⟨by decide,by decide⟩:0<=(1:Int)/\(1:Int)<=1024).2 ⟨by unfold aF;decide,?_⟩⟩;refine ⟨by decide,by decide,by decide,by decide,λ_=>kq ff.q5.1 ff.q5.2 ⟨by unfold aF;decide,?_⟩⟩;refine ⟨by decide,by decide,by decide,by decide,λ_=>kq hk.r1.1 hk.r1.2 ⟨by unfold aF;decide,?_⟩⟩;refine ⟨by decide,by decide,by decide,by decide,λ_=>kq hk.r2.1 hk.r2.2 ⟨by unfold aF;decide,?_⟩⟩;rw [PY];refine aw (λhc=>by cases hc) (λ_=>aw (λhc=>absurd (of_decide_eq_true hc) (by have:=ff.q4.1;omega)) (λ_=>?_));exact h
def NS:Ct
 | [.v (.agg [.k (.int .i64 2),.k (.int .i64 mo),.k (.int .i64 ui),.k (.int .i64 gi),.k (.int .i64 lk),.k (.int .i64 xa),.k (.int .i64 st),.k (.int .i64 sz),.k (.int .i64 fr),.k (.int .i64 off),.k (.string tg)])],[],Q=>DO mo ui gi lk xa/\zq st sz fr off/\tg=⟨#[]⟩/\Q (.bool true) []
 | _,_,_=>False
def aa0:=aa1.add Kr
abbrev rB:=ad0++oG di
abbrev Gc (R:Prop):=aF .i64 (ah+1+1+1+1+1+1+1+1)/\ah<=ah+1+1+1+1+1+1+1+1/\ah+1+1+1+1+1+1+1+1< (↑iq:Int)/\ah<=ah+1+1+1+1+1+1+1+1/\ah+1+1+1+1+1+1+1+1< (↑iq:Int)/\R
abbrev Gb (R:Prop):=aF .i64 (ah+1+1+1+1+1+1+1)/\ah<=ah+1+1+1+1+1+1+1/\ah+1+1+1+1+1+1+1< (↑iq:Int)/\ah<=ah+1+1+1+1+1+1+1/\ah+1+1+1+1+1+1+1< (↑iq:Int)/\R
abbrev rq:=aK bP rB (ah+1+1+1+1+1+1+1+1)
abbrev wz (R:Prop):=ah<=ah+1+1+1+1+1+1/\ah+1+1+1+1+1+1< (↑iq:Int)/\R
abbrev rp:=aK bP rB (ah+1+1+1+1+1+1+1)
abbrev wy (R:Prop):=ah<=ah+1+1+1+1+1/\ah+1+1+1+1+1< (↑iq:Int)/\R
abbrev wx (R:Prop):=ah<=ah+1+1+1/\ah+1+1+1< (↑iq:Int)/\R
abbrev yB (R:Prop):=aF .i64 dP/\ah<=ah+1+1/\ah+1+1< (↑iq:Int)/\ah<=ah+1+1/\ah+1+1< (↑iq:Int)/\R
abbrev yz (R:Prop):=aF .i64 dG/\ah<=ah+1/\ah+1< (↑iq:Int)/\ah<=ah+1/\ah+1< (↑iq:Int)/\R
abbrev yr (R:Prop):=iq<=eW->ah<=ah/\ah< (↑iq:Int)/\ah<=ah/\ah< (↑iq:Int)/\R
abbrev nc:=aK bP rB ah
abbrev na:=aK bP rB dG
abbrev mZ:=aK bP rB dP
abbrev mY:=aK bP rB dY
abbrev mX:=aK bP rB eX
abbrev mW:=aK bP rB fT
abbrev mV:=aK bP rB lg
abbrev yc (R:Prop):=aF .i64 (ah+1+1+1+1+1+1+1+1+1)/\R
def Fk (mo ui gi lk xa st sz fr off:Int) (tg:ByteArray):dE:=λQ=>aF .i64 2->cA mo ui gi (cA lk xa st (cA sz fr off (aL (dr tg)->(216:Nat)<=cw/\iq<=eW/\(yr (Ty.ok bP nc->br (cR mo) (bc Q) (br (decide (mo> 
 nc.2.2.1)) (bc Q) (yz (Ty.ok bP na->br (cR ui) (bc Q) (br (decide (ui>na.2.2.1)) (bc Q) (yB (Ty.ok bP mZ->br (cR gi) (bc Q) (br (decide (gi>mZ.2.2.1)) (bc Q) (aF .i64 
 dY/\wx (wx (Ty.ok bP mY->br (cR lk) (bc Q) (br (decide (lk>mY.2.2.1)) (bc Q) (aF .i64 eX/\fS (ah+1+1+1+1< (↑iq:Int)/\fS (ah+1+1+1+1< (↑iq:Int)/\(Ty.ok bP 
 mX->br (cR xa) (bc Q) (br (decide (xa>mX.2.2.1)) (bc Q) (aF .i64 fT/\wy (wy (Ty.ok bP mW->br (cR st) (bc Q) (br (decide (st>mW.2.2.1)) (bc Q) (aF .i64 lg/\wz (wz (Ty.ok 
 bP mV->br (cR sz) (bc Q) (br (decide (sz>mV.2.2.1)) (bc Q) (Gb (Ty.ok bP rp->br (cR fr) (bc Q) (br (decide (fr>rp.2.2.1)) (bc Q) (Gc (Ty.ok bP rq->br (cR off) (bc Q) (br 
 (decide (off>rq.2.2.1)) (bc Q) (yc (br (!(di==2&& (mo==mo&& (ui==ui&& (gi==gi&& (lk==lk&& (xa==xa&& (st==st&& (sz==sz&& (fr==fr&& (off==off&& (mJ iz tg&& true)))))))))))) (bc Q) (br 
 (decide (lk< 1)) (bc Q) (bG≠ah/\(aF .i64 (Int.tmod sz bG)->br (decide (fr>0)==decide (Int.tmod sz bG>ah)) (br (decide (Int.tmod sz bG>ah)) (Q qK []) (Q (.v (.c (.k (.bool (off==0))))) [])) 
 (bc Q)))))))))))))))))))))))))))))))))))))))))
theorem Kq:cG 134 NS:=by
 intro args H Q h;unfold NS at h;split at h;rotate_left;cases h;rename_i mo ui gi lk xa st sz fr off tg;refine Wp.dJ aa0 gO ⟨[],[]⟩ Tryz.f134 (Fk mo ui gi lk xa st sz fr off tg) (unr:=[(5,11)]) ?_;unfold Fk yc iz mV mW mX mY mZ na nc yr yz bc dr yB cR wx dG wy rp wz rq fS Gb Gc eW dP lg cw dY fT eX rB cA kQ qK ah bG di aL iq;obtain ⟨ff,hk,rfl,h⟩:=h;refine λ_ _ _ _ _ _ _ _ _ _ _=>⟨by decide,by decide,λ_=>?_⟩;refine ⟨by decide,by decide,by decide,by decide,λ_=>kq ff.q1.1 ff.q1.2 ⟨by unfold aF;decide,?_⟩⟩;refine ⟨by decide,by decide,by decide,by decide,λ_=>kq ff.q2.1 ff.q2.2 ⟨by unfold aF;decide,?_⟩⟩;refine ⟨by decide,by decide,by decide,by decide,λ_=>kq ff.q3.1 ff.q3.2 ⟨by unfold aF;decide,?_⟩⟩;refine ⟨by decide,by decide,by decide,by decide,λ_=>kq (⟨by have:=ff.q4.1;omega,ff.q4.2⟩:0<=(lk:Int)/\(lk:Int)<=1024).1 (⟨by have:=ff.q4.1;omega,ff.q4.2⟩:0<=(lk:Int)/\(lk:Int)<=1024).2 ⟨by unfold aF;decide,?_⟩⟩;refine ⟨by decide,by decide,by decide,by decide,λ_=>kq ff.q5.1 ff.q5.2 ⟨by unfold aF;decide,?_⟩⟩;refine ⟨by decide,by decide,by decide,by decide,λ_=>kq hk.r1.1 hk.r1.2 ⟨by unfold aF;decide,?_⟩⟩;refine ⟨by decide,by decide,by decide,by decide,λ_=>kq hk.r2.1 hk.r2.2 ⟨by unfold aF;decide,?_⟩⟩;refine ⟨by decide,by decide,by decide,by decide,λ_=>kq hk.r3.1 hk.r3.2 ⟨by unfold aF;decide,?_⟩⟩;refine ⟨by decide,by decide,by decide,by decide,λ_=>kq hk.r4.1 hk.r4.2 ⟨by unfold aF;decide,?_⟩⟩;rw [PY];refine aw (λhc=>by cases hc) (λ_=>aw (λhc=>absurd (of_decide_eq_true hc) (by have:=ff.q4.1;omega)) (λ_=>?_));have ht:=hk.tail;have h0:=hk.r2.1;rw [Int.tmod_eq_emod_of_nonneg h0];refine ⟨by decide,λ_=>aw (λ_=>aw (λ_=>h) (λhd=>?_)) (λhc=>?_)⟩
 .have hd:=of_decide_eq_false hd;have:off=0:=by rcases ht.2 with a| a;exact absurd a (by omega);exact a
  subst this;exact h
 .refine absurd ?_ (by rw [hc];decide:¬((decide (fr>0)==decide (sz % 128>0))=true));rw [beq_iff_eq];exact decide_eq_decide.2 ht.1
def NR:Ct
 | [.v (.agg [.k (.int .i64 3),.k (.int .i64 mo),.k (.int .i64 ui),.k (.int .i64 gi),.k (.int .i64 lk),.k (.int .i64 xa),.k (.int .i64 st),.k (.int .i64 sz),.k (.int .i64 fr),.k (.int .i64 off),.k (.string tg)])],[],Q=>DO mo ui gi lk xa/\zp tg/\st=0/\sz=0/\fr=0/\off=0/\Q (.bool true) []
 | _,_,_=>False
def aaZ:=aa0.add Kq
abbrev zI:=ad0++oG lh
abbrev wv (R:Prop):=ah<=ah+1+1+1/\ah+1+1+1< (↑jY:Int)/\R
abbrev yA (R:Prop):=aF .i64 dP/\ah<=ah+1+1/\ah+1+1< (↑jY:Int)/\ah<=ah+1+1/\ah+1+1< (↑jY:Int)/\R
abbrev yy (R:Prop):=aF .i64 dG/\ah<=ah+1/\ah+1< (↑jY:Int)/\ah<=ah+1/\ah+1< (↑jY:Int)/\R
abbrev yq (R:Prop):=jY<=eW->ah<=ah/\ah< (↑jY:Int)/\ah<=ah/\ah< (↑jY:Int)/\R
abbrev IC (y0) (y1:SV->List HO->Prop):=aF .i64 (Lib.indexByte y0 (Nat.toUInt8 bD))->y1 (.v (.c (.k (.bool (decide (Lib.indexByte y0 (Nat.toUInt8 bD)< 0)))))) []
abbrev mU:=aK bP zI ah
abbrev mT:=aK bP zI dG
abbrev mS:=aK bP zI dP
abbrev mR:=aK bP zI dY
abbrev mQ:=aK bP zI eX
def Fj (mo ui gi lk xa st sz fr off:Int) (tg:ByteArray):dE:=λQ=>aF .i64 3->cA mo ui gi (cA lk xa st (cA sz fr off (aL (dr tg)->(120:Nat)<=cw/\jY<=eW/\(yq (Ty.ok bP mU->br (cR mo) (bc Q) (br (decide (mo> 
 mU.2.2.1)) (bc Q) (yy (Ty.ok bP mT->br (cR ui) (bc Q) (br (decide (ui>mT.2.2.1)) (bc Q) (yA (Ty.ok bP mS->br (cR gi) (bc Q) (br (decide (gi>mS.2.2.1)) (bc Q) (aF .i64 
 dY/\wv (wv (Ty.ok bP mR->br (cR lk) (bc Q) (br (decide (lk>mR.2.2.1)) (bc Q) (aF .i64 eX/\fS (ah+1+1+1+1< (↑jY:Int)/\fS (ah+1+1+1+1< (↑jY:Int)/\(Ty.ok bP 
 mQ->br (cR xa) (bc Q) (br (decide (xa>mQ.2.2.1)) (bc Q) (aF .i64 fT/\br (!(lh==3&& (mo==mo&& (ui==ui&& (gi==gi&& (lk==lk&& (xa==xa&& (ah==st&& (ah==sz&& (ah==fr&& (ah== 
 off&& (mJ tg tg&& true)))))))))))) (bc Q) (br (decide (lk< 1)) (bc Q) (br (decide ((iO tg)>ah)) (br (decide ((iO tg)<=(200:Int))) (IC tg.data.toList Q) (bc Q)) (bc Q)))))))))))))))))))))))))
theorem Kp:cG 134 NR:=by
 intro args H Q h;unfold NR at h;split at h;rotate_left;cases h;rename_i mo ui gi lk xa st sz fr off tg;refine Wp.dJ aaZ gO ⟨[],[]⟩ Tryz.f134 (Fj mo ui gi lk xa st sz fr off tg) (unr:=[(5,11)]) ?_;unfold Fj iO mQ mR mS mT mU IC yq yy bc dr yA cR wv dG fS eW dP zI cw dY fT eX cA kQ ah lh aL bD jY;obtain ⟨ff,hk,rfl,rfl,rfl,rfl,h⟩:=h;refine λ_ _ _ _ _ _ _ _ _ _ _=>⟨by decide,by decide,λ_=>?_⟩;refine ⟨by decide,by decide,by decide,by decide,λ_=>kq ff.q1.1 ff.q1.2 ⟨by unfold aF;decide,?_⟩⟩;refine ⟨by decide,by decide,by decide,by decide,λ_=>kq ff.q2.1 ff.q2.2 ⟨by unfold aF;decide,?_⟩⟩;refine ⟨by decide,by decide,by decide,by decide,λ_=>kq ff.q3.1 ff.q3.2 ⟨by unfold aF;decide,?_⟩⟩;refine ⟨by decide,by decide,by decide,by decide,λ_=>kq (⟨by have:=ff.q4.1;omega,ff.q4.2⟩:0<=(lk:Int)/\(lk:Int)<=1024).1 (⟨by have:=ff.q4.1;omega,ff.q4.2⟩:0<=(lk:Int)/\(lk:Int)<=1024).2 ⟨by unfold aF;decide,?_⟩⟩;refine ⟨by decide,by decide,by decide,by decide,λ_=>kq ff.q5.1 ff.q5.2 ⟨by unfold aF;decide,?_⟩⟩;rw [PY];refine aw (λhc=>by cases hc) (λ_=>aw (λhc=>absurd (of_decide_eq_true hc) (by have:=ff.q4.1;omega)) (λ_=>?_));refine aw (λ_=>aw (λ_=>λ_=>?_) (λhc=>absurd (of_decide_eq_false hc) (by have:=hk.len;omega))) (λhc=>absurd (of_decide_eq_false hc) (by have:=hk.len;omega));rw [show decide (Lib.indexByte tg.data.toList (Nat.toUInt8 0)< 0)=true from ahM hk.nul];exact h
def Tt:Ct
 | [.v (.agg ci)],[],Q=>(match eE.of ci with
  | some (i,[])=>oO i/\Q (.bool true) []
  | _=>False)
 | _,_,_=>False
theorem acp:cG 134 Tt:=by
 intro args H Q h;unfold Tt at h;split at h;rotate_left;cases h;rename_i ci;split at h;rotate_left;cases h;rename_i i hi;refine Wp.said (args':=[.v (.agg (eE.cells i))]) (λE g=>bC.cE (IP hi) (λ_ h=>h)) ?_;clear hi;obtain ⟨k0,mo,ui,gi,lk,xa,st,sz,fr,off,tg,⟨⟩⟩:=i;obtain ⟨⟨hc,ho⟩,h⟩:=h;rcases ho with ⟨e,ho⟩| ⟨e,ho⟩| ⟨e,ho⟩
 .have e:k0=1:=e;subst e;exact Kr _ _ _ ⟨hc,ho.1,ho.2.1,ho.2.2.1,ho.2.2.2.1,ho.2.2.2.2,h⟩
 .have e:k0=2:=e;subst e;exact Kq _ _ _ ⟨hc,ho.1,ho.2,h⟩
 .have e:k0=3:=e;subst e;exact Kp _ _ _ ⟨hc,ho.1,ho.2.1,ho.2.2.1,ho.2.2.2.1,ho.2.2.2.2,h⟩
def NQ:Ct
 | [.v (.agg [.k (.int .i64 1),.k (.int .i64 mo),.k (.int .i64 ui),.k (.int .i64 gi),.k (.int .i64 lk),.k (.int .i64 xa),.k (.int .i64 st),.k (.int .i64 sz),.k (.int .i64 fr),.k (.int .i64 off),.k (.string tg)])],[],Q=>DO mo ui gi lk xa/\TZ st sz/\lk=1/\fr=0/\off=0/\tg=⟨#[]⟩/\Q (.cJ [.c (.d .u8 (OS mo ui gi xa st sz)),.c (.k (.int .i64 0))]) []
 | _,_,_=>False
def aaY:=(aaZ.add Kp).add acp
abbrev R4 (y0:Int) (y1:Int) (y2:Int) (y3:Int) (y4:Int) (y5:Int) (y6:Int):=[]++aI bJ bJ++aI bn (aZ y0)++aI bn (aZ y1)++aI bn (aZ y2)++aI bn (aZ y3)++aI cU (aZ y4)++aI cU (aZ y5)++aI cU (aZ y6)
abbrev pq (R:Prop):=ah=ah/\(bd<=bd/\bd<=cC)/\R
def Fi (mo ui gi lk xa st sz fr off:Int) (tg:ByteArray):dE:=λQ=>aF .i64 1->cA mo ui gi (cA lk xa st (cA sz fr off (aL (dr tg)->oO (bd,mo,ui,gi,lk,xa,st,sz,fr,off,tg,())/\pq ((ah<=bd/\bd< fb ^ bJ)/\bD<= 
 j5/\(168:Nat)<=cw/\jX<=eW/\(jX<=eW->ma (ma (Ty.ok bP nq->bt ((bd<=nq.2.1/\nq.2.1<=4)/\(lD mo)/\bJ<=j5/\aF .i64 dG/\pJ (pJ (Ty.ok bP nk->bt 
 ((bd<=nk.2.1/\nk.2.1<=4)/\(lD ui)/\List.length ([]++aI bJ bJ++aI bn (aZ mo))<=100000000000/\aF .i64 dP/\pM (pM (Ty.ok bP nj->bt ((bd<=nj.2.1/\nj.2.1<=4)/\(lD 
 gi)/\List.length ([]++aI bJ bJ++aI bn (aZ mo)++aI bn (aZ ui))<=100000000000/\aF .i64 dY/\pO (pO (Ty.ok bP ni->bt ((bd<=ni.2.1/\ni.2.1<=4)/\(lD lk)/\List.length ([] 
 ++aI bJ bJ++aI bn (aZ mo)++aI bn (aZ ui)++aI bn (aZ gi))<=100000000000/\aF .i64 eX/\fS (l5 (fS (l5 (Ty.ok bP nh->bt ((bd<=nh.2.1/\nh.2.1<=4)/\(oq xa) 
 /\List.length ([]++aI bJ bJ++aI bn (aZ mo)++aI bn (aZ ui)++aI bn (aZ gi)++aI bn (aZ lk))<=100000000000/\aF .i64 fT/\pQ (pQ (Ty.ok bP ng->bt ((bd<=ng.2.1/\ 
 ng.2.1<=4)/\(oq st)/\List.length ([]++aI bJ bJ++aI bn (aZ mo)++aI bn (aZ ui)++aI bn (aZ gi)++aI bn (aZ lk)++aI cU (aZ xa))<=100000000000/\aF .i64 lg/\pR (pR 
 (Ty.ok bP nf->bt ((bd<=nf.2.1/\nf.2.1<=4)/\(oq sz)/\List.length ([]++aI bJ bJ++aI bn (aZ mo)++aI bn (aZ ui)++aI bn (aZ gi)++aI bn (aZ lk)++aI cU (aZ 
 xa)++aI cU (aZ st))<=100000000000/\po (bt (List.length (R4 mo ui gi lk xa st sz)<=100000000000/\(aL (List.length (R4 mo ui gi lk xa st sz))->aF .i64 0->Q (SV.cJ [S1.c (Cl.d Ty.u8 (R4 mo ui gi lk xa st 
 sz)),.c (.k a6)]) [])))))))))))))))))))))))))))))))
theorem Ko:cG 84 NQ:=by
 intro args H Q h;unfold NQ at h;split at h;rotate_left;cases h;rename_i mo ui gi lk xa st sz fr off tg;refine Wp.lq [some (.sl .u8),none] [] ?_;refine Wp.dJ aaY gO ⟨[],[]⟩ Tryz.f84 (Fi mo ui gi lk xa st sz fr off tg) (unr:=[(7,11)]) ?_;unfold Fi oq l5 j5 bt po nf ng nh ni nj nk nq pq ma dr pJ pM lD dG R4 pO fS pQ eW pR dP lg cw dY fT eX uD aZ a6 cA ah bd fb cC aL bD bJ bn cU jX;obtain ⟨ff,hk,rfl,rfl,rfl,rfl,h⟩:=h;refine λ_ _ _ _ _ _ _ _ _ _ _=>⟨⟨ff,.inl ⟨rfl,hk,rfl,rfl,rfl,rfl⟩⟩,rfl,⟨by decide,by decide⟩,⟨by decide,by decide⟩,by decide,by decide,by decide,λ_=>?_⟩;refine ⟨by decide,by decide,by decide,by decide,λ_=>⟨rfl,⟨by decide,by decide⟩,⟨ff.q1.1,by have:=ff.q1.2;show _< (65536:Int);omega⟩,by decide,by unfold aF;decide,?_⟩⟩;refine ⟨by decide,by decide,by decide,by decide,λ_=>⟨rfl,⟨by decide,by decide⟩,⟨ff.q2.1,by have:=ff.q2.2;show _< (65536:Int);omega⟩,(by simp only [af,aB,aM];decide),by unfold aF;decide,?_⟩⟩;refine ⟨by decide,by decide,by decide,by decide,λ_=>⟨rfl,⟨by decide,by decide⟩,⟨ff.q3.1,by have:=ff.q3.2;show _< (65536:Int);omega⟩,(by simp only [af,aB,aM];decide),by unfold aF;decide,?_⟩⟩;refine ⟨by decide,by decide,by decide,by decide,λ_=>⟨rfl,⟨by decide,by decide⟩,⟨(⟨by decide,by decide⟩:0<=(1:Int)/\(1:Int)<=1024).1,by have:=(⟨by decide,by decide⟩:0<=(1:Int)/\(1:Int)<=1024).2;show _< (65536:Int);omega⟩,(by simp only [af,aB,aM];decide),by unfold aF;decide,?_⟩⟩;refine ⟨by decide,by decide,by decide,by decide,λ_=>⟨rfl,⟨by decide,by decide⟩,⟨ff.q5.1,by have:=ff.q5.2;show _< (4294967296:Int);omega⟩,(by simp only [af,aB,aM];decide),by unfold aF;decide,?_⟩⟩;refine ⟨by decide,by decide,by decide,by decide,λ_=>⟨rfl,⟨by decide,by decide⟩,⟨hk.r1.1,by have:=hk.r1.2;show _< (4294967296:Int);omega⟩,(by simp only [af,aB,aM];decide),by unfold aF;decide,?_⟩⟩;refine ⟨by decide,by decide,by decide,by decide,λ_=>⟨rfl,⟨by decide,by decide⟩,⟨hk.r2.1,by have:=hk.r2.2;show _< (4294967296:Int);omega⟩,(by simp only [af,aB,aM];decide),by unfold aF;decide,?_⟩⟩;refine ⟨rfl,(by simp only [af,aB,aM];decide),λ_ _=>?_⟩;rw [show ([]++aI 1 1++aI 2 (ax mo)++aI 2 (ax ui)++aI 2 (ax gi)++aI 2 (ax 1)++aI 4 (ax xa)++aI 4 (ax st)++aI 4 (ax sz):List UInt8)=OS mo ui gi xa st sz by unfold OS Zv;simp only [aG,dQ]<;>rfl];exact ⟨ay _,h⟩
def NP:Ct
 | [.v (.agg [.k (.int .i64 2),.k (.int .i64 mo),.k (.int .i64 ui),.k (.int .i64 gi),.k (.int .i64 lk),.k (.int .i64 xa),.k (.int .i64 st),.k (.int .i64 sz),.k (.int .i64 fr),.k (.int .i64 off),.k (.string tg)])],[],Q=>DO mo ui gi lk xa/\zq st sz fr off/\tg=⟨#[]⟩/\Q (.cJ [.c (.d .u8 (OR mo ui gi lk xa st sz fr off)),.c (.k (.int .i64 0))]) []
 | _,_,_=>False
def aaX:=aaY.add Ko
def Fh (mo ui gi lk xa st sz fr off:Int) (tg:ByteArray):dE:=λQ=>aF .i64 2->cA mo ui gi (cA lk xa st (cA sz fr off (aL (dr tg)->oO (di,mo,ui,gi,lk,xa,st,sz,fr,off,tg,())/\pq ((ah<=di/\di< fb ^ bJ)/\bD<= 
 j5/\(216:Nat)<=cw/\iq<=eW/\(yr (Ty.ok bP nc->bt ((bd<=nc.2.1/\nc.2.1<=4)/\(lD mo)/\bJ<=j5/\yz (Ty.ok bP na->bt ((bd<=na.2.1/\na.2.1<=4)/\(lD 
 ui)/\List.length ([]++aI bJ bn++aI bn (aZ mo))<=100000000000/\yB (Ty.ok bP mZ->bt ((bd<=mZ.2.1/\mZ.2.1<=4)/\(lD gi)/\List.length ([]++aI bJ bn++aI bn (aZ mo)++ 
 aI bn (aZ ui))<=100000000000/\aF .i64 dY/\wx (wx (Ty.ok bP mY->bt ((bd<=mY.2.1/\mY.2.1<=4)/\(lD lk)/\List.length ([]++aI bJ bn++aI bn (aZ mo)++aI bn (aZ ui) 
 ++aI bn (aZ gi))<=100000000000/\aF .i64 eX/\fS (ah+1+1+1+1< (↑iq:Int)/\fS (ah+1+1+1+1< (↑iq:Int)/\(Ty.ok bP mX->bt ((bd<=mX.2.1/\mX.2.1<=4)/\(oq xa)/\ 
 List.length ([]++aI bJ bn++aI bn (aZ mo)++aI bn (aZ ui)++aI bn (aZ gi)++aI bn (aZ lk))<=100000000000/\aF .i64 fT/\wy (wy (Ty.ok bP mW->bt ((bd<=mW.2.1/\ 
 mW.2.1<=4)/\(oq st)/\List.length ([]++aI bJ bn++aI bn (aZ mo)++aI bn (aZ ui)++aI bn (aZ gi)++aI bn (aZ lk)++aI cU (aZ xa))<=100000000000/\aF .i64 lg/\wz (wz 
 (Ty.ok bP mV->bt ((bd<=mV.2.1/\mV.2.1<=4)/\(lD sz)/\List.length ([]++aI bJ bn++aI bn (aZ mo)++aI bn (aZ ui)++aI bn (aZ gi)++aI bn (aZ lk)++aI cU (aZ 
 xa)++aI cU (aZ st))<=100000000000/\Gb (Ty.ok bP rp->bt ((bd<=rp.2.1/\rp.2.1<=4)/\(lD fr)/\List.length ([]++aI bJ bn++aI bn (aZ mo)++aI bn (aZ ui)++aI bn (aZ 
 gi)++aI bn (aZ lk)++aI cU (aZ xa)++aI cU (aZ st)++aI bn (aZ sz))<=100000000000/\Gc (Ty.ok bP rq->bt ((bd<=rq.2.1/\rq.2.1<=4)/\(0<=off/\off< 256 ^ bJ)/\List.length 
 ([]++aI bJ bn++aI bn (aZ mo)++aI bn (aZ ui)++aI bn (aZ gi)++aI bn (aZ lk)++aI cU (aZ xa)++aI cU (aZ st)++aI bn (aZ sz)++aI bn (aZ fr))<=100000000000 
 /\yc (bt (List.length ([]++aI bJ bn++aI bn (aZ mo)++aI bn (aZ ui)++aI bn (aZ gi)++aI bn (aZ lk)++aI cU (aZ xa)++aI cU (aZ st)++aI bn (aZ sz)++aI 
 bn (aZ fr)++aI bJ (aZ off))<=100000000000/\(aL (List.length ([]++aI bJ bn++aI bn (aZ mo)++aI bn (aZ ui)++aI bn (aZ gi)++aI bn (aZ lk)++aI cU (aZ xa)++aI 
 cU (aZ st)++aI bn (aZ sz)++aI bn (aZ fr)++aI bJ (aZ off)))->aF .i64 0->Q (SV.cJ [S1.c (Cl.d Ty.u8 ([]++aI bJ bn++aI bn (aZ mo)++aI bn (aZ ui)++aI bn (aZ gi)++ 
 aI bn (aZ lk)++aI cU (aZ xa)++aI cU (aZ st)++aI bn (aZ sz)++aI bn (aZ fr)++aI bJ (aZ off))),.c (.k a6)]) [])))))))))))))))))))))))))))))))
theorem Kn:cG 84 NP:=by
 intro args H Q h;unfold NP at h;split at h;rotate_left;cases h;rename_i mo ui gi lk xa st sz fr off tg;refine Wp.lq [some (.sl .u8),none] [] ?_;refine Wp.dJ aaX gO ⟨[],[]⟩ Tryz.f84 (Fh mo ui gi lk xa st sz fr off tg) (unr:=[(7,11)]) ?_;unfold Fh yc oq j5 bt mV mW mX mY mZ na nc pq yr yz dr yB wx lD dG wy rp wz rq fS Gb Gc eW dP lg cw dY fT eX aZ a6 rB cA ah bd di fb cC aL bD bJ bn cU iq;obtain ⟨ff,hk,rfl,h⟩:=h;refine λ_ _ _ _ _ _ _ _ _ _ _=>⟨⟨ff,.inr (.inl ⟨rfl,hk,rfl⟩)⟩,rfl,⟨by decide,by decide⟩,⟨by decide,by decide⟩,by decide,by decide,by decide,λ_=>?_⟩;refine ⟨by decide,by decide,by decide,by decide,λ_=>⟨rfl,⟨by decide,by decide⟩,⟨ff.q1.1,by have:=ff.q1.2;show _< (65536:Int);omega⟩,by decide,by unfold aF;decide,?_⟩⟩;refine ⟨by decide,by decide,by decide,by decide,λ_=>⟨rfl,⟨by decide,by decide⟩,⟨ff.q2.1,by have:=ff.q2.2;show _< (65536:Int);omega⟩,(by simp only [af,aB,aM];decide),by unfold aF;decide,?_⟩⟩;refine ⟨by decide,by decide,by decide,by decide,λ_=>⟨rfl,⟨by decide,by decide⟩,⟨ff.q3.1,by have:=ff.q3.2;show _< (65536:Int);omega⟩,(by simp only [af,aB,aM];decide),by unfold aF;decide,?_⟩⟩;refine ⟨by decide,by decide,by decide,by decide,λ_=>⟨rfl,⟨by decide,by decide⟩,⟨(⟨by have:=ff.q4.1;omega,ff.q4.2⟩:0<=(lk:Int)/\(lk:Int)<=1024).1,by have:=(⟨by have:=ff.q4.1;omega,ff.q4.2⟩:0<=(lk:Int)/\(lk:Int)<=1024).2;show _< (65536:Int);omega⟩,(by simp only [af,aB,aM];decide),by unfold aF;decide,?_⟩⟩;refine ⟨by decide,by decide,by decide,by decide,λ_=>⟨rfl,⟨by decide,by decide⟩,⟨ff.q5.1,by have:=ff.q5.2;show _< (4294967296:Int);omega⟩,(by simp only [af,aB,aM];decide),by unfold aF;decide,?_⟩⟩;refine ⟨by decide,by decide,by decide,by decide,λ_=>⟨rfl,⟨by decide,by decide⟩,⟨hk.r1.1,by have:=hk.r1.2;show _< (4294967296:Int);omega⟩,(by simp only [af,aB,aM];decide),by unfold aF;decide,?_⟩⟩;refine ⟨by decide,by decide,by decide,by decide,λ_=>⟨rfl,⟨by decide,by decide⟩,⟨hk.r2.1,by have:=hk.r2.2;show _< (65536:Int);omega⟩,(by simp only [af,aB,aM];decide),by unfold aF;decide,?_⟩⟩;refine ⟨by decide,by decide,by decide,by decide,λ_=>⟨rfl,⟨by decide,by decide⟩,⟨hk.r3.1,by have:=hk.r3.2;show _< (65536:Int);omega⟩,(by simp only [af,aB,aM];decide),by unfold aF;decide,?_⟩⟩;refine ⟨by decide,by decide,by decide,by decide,λ_=>⟨rfl,⟨by decide,by decide⟩,⟨hk.r4.1,by have:=hk.r4.2;show _< (256:Int);omega⟩,(by simp only [af,aB,aM];decide),by unfold aF;decide,?_⟩⟩;refine ⟨rfl,(by simp only [af,aB,aM];decide),λ_ _=>?_⟩;rw [show ([]++aI 1 2++aI 2 (ax mo)++aI 2 (ax ui)++aI 2 (ax gi)++aI 2 (ax lk)++aI 4 (ax xa)++aI 4 (ax st)++aI 2 (ax sz)++aI 2 (ax fr)++aI 1 (ax off):List UInt8)=OR mo ui gi lk xa st sz fr off by unfold OR Zv;simp only [aG,dQ]<;>rfl];exact ⟨ay _,h⟩
def NO:Ct
 | [.v (.agg [.k (.int .i64 3),.k (.int .i64 mo),.k (.int .i64 ui),.k (.int .i64 gi),.k (.int .i64 lk),.k (.int .i64 xa),.k (.int .i64 st),.k (.int .i64 sz),.k (.int .i64 fr),.k (.int .i64 off),.k (.string tg)])],[],Q=>DO mo ui gi lk xa/\zp tg/\st=0/\sz=0/\fr=0/\off=0/\Q (.cJ [.c (.d .u8 (Mb mo ui gi lk xa tg)),.c (.k (.int .i64 0))]) []
 | _,_,_=>False
def DH:=aaX.add Kn
abbrev RZ (y0:Int) (y1:Int) (y2:Int) (y3:Int) (y4:Int) (y5:ByteArray) (y6):=([]++aI bJ eZ++aI bn (aZ y0)++aI bn (aZ y1)++aI bn (aZ y2)++aI bn (aZ y3)++aI cU (aZ y4)++az (ByteArray.size y5)::y6)
def Fg (mo ui gi lk xa st sz fr off:Int) (tg:ByteArray):dE:=λQ=>aF .i64 3->cA mo ui gi (cA lk xa st (cA sz fr off (aL (dr tg)->oO (lh,mo,ui,gi,lk,xa,st,sz,fr,off,tg,())/\pq ((ah<=lh/\lh< fb ^ bJ)/\bD<= 
 j5/\(120:Nat)<=cw/\jY<=eW/\(yq (Ty.ok bP mU->bt ((bd<=mU.2.1/\mU.2.1<=4)/\(lD mo)/\bJ<=j5/\yy (Ty.ok bP mT->bt ((bd<=mT.2.1/\mT.2.1<=4)/\(lD 
 ui)/\List.length ([]++aI bJ eZ++aI bn (aZ mo))<=100000000000/\yA (Ty.ok bP mS->bt ((bd<=mS.2.1/\mS.2.1<=4)/\(lD gi)/\List.length ([]++aI bJ eZ++aI bn (aZ mo)++ 
 aI bn (aZ ui))<=100000000000/\aF .i64 dY/\wv (wv (Ty.ok bP mR->bt ((bd<=mR.2.1/\mR.2.1<=4)/\(lD lk)/\List.length ([]++aI bJ eZ++aI bn (aZ mo)++aI bn (aZ ui) 
 ++aI bn (aZ gi))<=100000000000/\aF .i64 eX/\fS (ah+1+1+1+1< (↑jY:Int)/\fS (ah+1+1+1+1< (↑jY:Int)/\(Ty.ok bP mQ->bt ((bd<=mQ.2.1/\mQ.2.1<=4)/\(oq xa)/\ 
 List.length ([]++aI bJ eZ++aI bn (aZ mo)++aI bn (aZ ui)++aI bn (aZ gi)++aI bn (aZ lk))<=100000000000/\aF .i64 fT/\bt (ByteArray.size tg<=255/\List.length ([]++aI bJ eZ 
 ++aI bn (aZ mo)++aI bn (aZ ui)++aI bn (aZ gi)++aI bn (aZ lk)++aI cU (aZ xa))<=1000000000/\bt (List.length (RZ mo ui gi lk xa tg tg.data.toList)<=100000000000/\(aL (List.length 
 (RZ mo ui gi lk xa tg tg.data.toList))->aF .i64 0->Q (SV.cJ [S1.c (Cl.d Ty.u8 (RZ mo ui gi lk xa tg tg.data.toList)),.c (.k a6)]) [])))))))))))))))))))))
theorem rS:cG 84 NO:=by
 intro args H Q h;unfold NO at h;split at h;rotate_left;cases h;rename_i mo ui gi lk xa st sz fr off tg;refine Wp.lq [some (.sl .u8),none] [] ?_;refine Wp.dJ DH gO ⟨[],[]⟩ Tryz.f84 (Fg mo ui gi lk xa st sz fr off tg) (unr:=[(7,11)]) ?_;unfold Fg oq j5 bt mQ mR mS mT mU pq yq yy dr yA wv RZ lD dG fS eW dP zI cw dY fT eX aZ a6 cA ah bd fb lh cC aL bD bJ bn eZ cU jY;obtain ⟨ff,hk,rfl,rfl,rfl,rfl,h⟩:=h;refine λ_ _ _ _ _ _ _ _ _ _ _=>⟨⟨ff,.inr (.inr ⟨rfl,hk,rfl,rfl,rfl,rfl⟩)⟩,rfl,⟨by decide,by decide⟩,⟨by decide,by decide⟩,by decide,by decide,by decide,λ_=>?_⟩;refine ⟨by decide,by decide,by decide,by decide,λ_=>⟨rfl,⟨by decide,by decide⟩,⟨ff.q1.1,by have:=ff.q1.2;show _< (65536:Int);omega⟩,by decide,by unfold aF;decide,?_⟩⟩;refine ⟨by decide,by decide,by decide,by decide,λ_=>⟨rfl,⟨by decide,by decide⟩,⟨ff.q2.1,by have:=ff.q2.2;show _< (65536:Int);omega⟩,(by simp only [af,aB,aM];decide),by unfold aF;decide,?_⟩⟩;refine ⟨by decide,by decide,by decide,by decide,λ_=>⟨rfl,⟨by decide,by decide⟩,⟨ff.q3.1,by have:=ff.q3.2;show _< (65536:Int);omega⟩,(by simp only [af,aB,aM];decide),by unfold aF;decide,?_⟩⟩;refine ⟨by decide,by decide,by decide,by decide,λ_=>⟨rfl,⟨by decide,by decide⟩,⟨(⟨by have:=ff.q4.1;omega,ff.q4.2⟩:0<=(lk:Int)/\(lk:Int)<=1024).1,by have:=(⟨by have:=ff.q4.1;omega,ff.q4.2⟩:0<=(lk:Int)/\(lk:Int)<=1024).2;show _< (65536:Int);omega⟩,(by simp only [af,aB,aM];decide),by unfold aF;decide,?_⟩⟩;refine ⟨by decide,by decide,by decide,by decide,λ_=>⟨rfl,⟨by decide,by decide⟩,⟨ff.q5.1,by have:=ff.q5.2;show _< (4294967296:Int);omega⟩,(by simp only [af,aB,aM];decide),by unfold aF;decide,?_⟩⟩;have hl:=hk.len;have uG:tg.data.toList.length=tg.size:=(kz tg).symm;refine ⟨rfl,by omega,(by simp only [af,aB,aM];decide),rfl,by simp only [af,aB,aq,aM,uG];omega,λ_ _=>?_⟩;rw [show ([]++aI 1 3++aI 2 (ax mo)++aI 2 (ax ui)++aI 2 (ax gi)++aI 2 (ax lk)++aI 4 (ax xa)++az tg.size::tg.data.toList:List UInt8)=Mb mo ui gi lk xa tg by unfold Mb Zv;simp only [aG,dQ]<;>rfl];exact ⟨ay _,h⟩
def JH:Ct
 | [.v (.agg ci)],[],Q=>(match eE.of ci with
  | some (i,[])=>oO i/\Q (.cJ [.c (.d .u8 (fK i)),.c (.k (.int .i64 0))]) []
  | _=>False)
 | _,_,_=>False
theorem vX:cG 84 JH:=by
 intro args H Q h;unfold JH at h;split at h;rotate_left;cases h;rename_i ci;split at h;rotate_left;cases h;rename_i i hi;refine Wp.said (args':=[.v (.agg (eE.cells i))]) (λE g=>bC.cE (IP hi) (λ_ h=>h)) ?_;clear hi;obtain ⟨k0,mo,ui,gi,lk,xa,st,sz,fr,off,tg,⟨⟩⟩:=i;obtain ⟨⟨hc,ho⟩,h⟩:=h;rcases ho with ⟨e,ho⟩| ⟨e,ho⟩| ⟨e,ho⟩
 .obtain ⟨h1,h2,h3⟩:=ho;have e:k0=1:=e;have h2:lk=1:=h2;subst e h2;exact Ko _ _ _ ⟨hc,h1,rfl,h3.1,h3.2.1,h3.2.2,h⟩
 .have e:k0=2:=e;subst e;exact Kn _ _ _ ⟨hc,ho.1,ho.2,h⟩
 .have e:k0=3:=e;subst e;exact rS _ _ _ ⟨hc,ho.1,ho.2.1,ho.2.2.1,ho.2.2.2.1,ho.2.2.2.2,h⟩
def Hg:Ct
 | [.v (.c (.k (.int .i64 k)))],[],Q=>k=1/\Q (.c (.o 0)) [.sl 227 bP (oG 1)]
 | _,_,_=>False
theorem Ui:cG 136 Hg:=by
 intro args H Q h;unfold Hg at h;split at h
 .obtain ⟨rfl,h⟩:=h;exact vY _ _ _ h
 .cases h
def za:Ct
 | [.v (.c cb)],[],Q=>(match (Ty.sl Ty.u8).of [cb] with
  | some (b,[])=>∃ mo ui gi xa st sz,(DO mo ui gi 1 xa/\TZ st sz)/\b=OS mo ui gi xa st sz/\Q (.cJ [.agg [.k (.int .i64 1),.k (.int .i64 mo),.k (.int .i64 ui),.k (.int .i64 gi),.k (.int .i64 1),.k (.int .i64 xa),.k (.int .i64 st),.k (.int .i64 sz),.k (.int .i64 0),.k (.int .i64 0),.k (.string ⟨#[]⟩)],.c (.k (.int .i64 0))]) []
  | _=>False)
 | _,_,_=>False
def ajo:=((DH.add rS).add vX).add Ui
abbrev Am (y0:List (Ty.u8).den):=List.drop 2 (List.drop 2 (List.drop 2 (List.drop 1 y0)))
abbrev vb (y0:List (Ty.u8).den):=List.drop 4 (List.drop 4 (List.drop 2 (Am y0)))
abbrev rA (y0:List (Ty.u8).den):=List.drop 2 (List.drop 1 y0)
abbrev nz (y0:List (Ty.u8).den):=List.drop 2 (Am y0)
abbrev pP (y0:List (Ty.u8).den):=List.take bn (List.drop 2 (rA y0))
abbrev pN (y0:List (Ty.u8).den):=List.take bn (List.drop 1 y0)
abbrev rn (y0:List (Ty.u8).den):=List.take cU (List.drop 4 (nz y0))
abbrev pL (y0:List (Ty.u8).den):=List.take bn (rA y0)
abbrev pK (y0:List (Ty.u8).den):=List.take cU (nz y0)
abbrev mc (y0:List (Ty.u8).den):=List.take bn (Am y0)
abbrev iP (y0:List (Ty.u8).den):=List.take bJ y0
abbrev yx (y0:List (Ty.u8).den) (R:Prop):=fa (List.length y0)/\ah=ah/\bd<=bd/\bd<=cC/\bd<=(aE y0)/\fa (List.length y0)/\R
abbrev yu (y0) (y1) (R:Prop):=aL (ByteArray.size (fD (List.take (cW y0) y1)))->ah=ah/\List.drop (cW y0) y1= []/\R
abbrev mP {A1:Type} (y0) (y1:List A1):=List.take (cW y0) y1
abbrev qH (y0:List (Ty.u8).den):Value:=.int .i64 (bL (iP y0))
abbrev qG (y0:List (Ty.u8).den):Value:=.int .i64 (bL (mc y0))
abbrev qF (y0:List (Ty.u8).den):Value:=.int .i64 (bL (pN y0))
abbrev qE (y0:List (Ty.u8).den):Value:=.int .i64 (bL (pL y0))
abbrev qD (y0:List (Ty.u8).den):Value:=.int .i64 (bL (pP y0))
abbrev qC (y0:List (Ty.u8).den):Value:=.int .i64 (bL (pK y0))
abbrev ya (y0:List (Ty.u8).den):=List.take cU (vb y0)
abbrev xX (y0:List (Ty.u8).den) (R:Prop):=List.length (List.drop 4 (nz y0))<=140737488355328/\R
abbrev qx (y0:List (Ty.u8).den):=List.drop 2 (rA y0)
def Bt (b:(List (Ty.u8).den)):dE:=λQ=>cM b (yx b (aF .i64 (bL (iP b))->bL (iP b)=bd/\(168:Nat)<=cw/\jX<=eW/\(jX<=eW->ma (ma (Ty.ok bP nq->bt (bd<=nq.2.1/\nq.2.1<=4/\nq.2.1<= 
 (a7 (List.drop 1 b))/\fa (List.length (List.drop 1 b))/\(aF .i64 (bL (pN b))->aF .i64 dG/\pJ (pJ (Ty.ok bP nk->bt (bd<=nk.2.1/\nk.2.1<=4/\nk.2.1<=(a7 (rA b))/\fa (List.length 
 (rA b))/\(aF .i64 (bL (pL b))->aF .i64 dP/\pM (pM (Ty.ok bP nj->bt (bd<=nj.2.1/\nj.2.1<=4/\nj.2.1<=(a7 (qx b))/\fa (List.length (qx b))/\(aF .i64 (bL (pP b))->aF 
 .i64 dY/\pO (pO (Ty.ok bP ni->bt (bd<=ni.2.1/\ni.2.1<=4/\ni.2.1<=(a7 (Am b))/\fa (List.length (Am b))/\(aF .i64 (bL (mc b))->aF .i64 eX/\fS (l5 (fS (l5 (Ty.ok 
 bP nh->bt (bd<=nh.2.1/\nh.2.1<=4/\nh.2.1<=(↑(List.length (nz b)):Int)/\List.length (nz b)<=140737488355328/\(aF .i64 (bL (pK b))->aF .i64 fT/\pQ (pQ (Ty.ok bP ng->bt 
 (bd<=ng.2.1/\ng.2.1<=4/\ng.2.1<=(↑(List.length (List.drop 4 (nz b))):Int)/\xX b (aF .i64 (bL (rn b))->aF .i64 lg/\pR (pR (Ty.ok bP nf->bt (bd<=nf.2.1/\nf.2.1<=4/\ 
 nf.2.1<=(↑(List.length (vb b)):Int)/\List.length (vb b)<=140737488355328/\(aF .i64 (bL (ya b))->po (br (bL (iP b)==3) (bt (∃ z r,List.drop cU (vb b)=z::r/\cW z<=List.length r/\ 
 List.length (List.drop 4 (vb b))<=140737488355328/\(yu z r (aF .i64 0->oO (bL (iP b),bL (pN b),bL (pL b),bL (pP b),bL (mc b),bL (pK b),bL (rn b),bL (ya b),ah,ah,fD 
 (mP z r),())/\Q (SV.cJ [S1.agg [.k (qH b),.k (qF b),.k (qE b),.k (qD b),.k (qG b),.k (qC b),.k (.int .i64 (bL (rn b))),.k (.int .i64 (bL (ya b))),.k a6,.k a6,.k (.string (fD 
 (mP z r)))],.c (.k a6)]) [])))) (bt (List.drop cU (vb b)= []/\(aF .i64 0->oO (bL (iP b),bL (pN b),bL (pL b),bL (pP b),bL (mc b),bL (pK b),bL (rn b),bL (ya b),ah, 
 ah,ByteArray.mk #[],())/\Q (SV.cJ [S1.agg [.k (qH b),.k (qF b),.k (qE b),.k (qD b),.k (qG b),.k (qC b),.k (.int .i64 (bL (rn b))),.k (.int .i64 (bL (ya b))),.k a6,.k a6,.k (.string 
 iz)],.c (.k a6)]) [])))))))))))))))))))))))))))))))))))))
theorem tp:cG 196 za:=by
 intro args H Q h;unfold za at h;split at h;rotate_left;cases h;rename_i cb;split at h;rotate_left;cases h;rename_i b hb;refine Wp.said (args':=[.c (.d Ty.u8 b)]) (λE g=>bC.cE (dI hb) (λ_ h=>h)) ?_;clear hb;refine Wp.dJ ajo gO ⟨[],[]⟩ Tryz.f196 (Bt b) (unr:=[(5,11)]) ?_;unfold Bt qx xX ya iz qC qD qE qF qG qH l5 bt mP po nf ng nh ni nj nk nq yu yx ma iP mc pJ pK pL rn pM dG pN pO fS pP pQ nz eW pR dP lg cw dY fT cM eX rA uD a6 vb Am ah bd cC a7 aE fa aL bJ bn cU jX;obtain ⟨mo,ui,gi,xa,st,sz,⟨ff,hk⟩,rfl,h⟩:=h;have e0:bL (aI 1 (ax 1))=1:=ef (by decide) (by decide);have e1:bL (aI 2 (ax mo))=mo:=ef ff.q1.1 (by have:=ff.q1.2;show _< (65536:Int);omega);have e2:bL (aI 2 (ax ui))=ui:=ef ff.q2.1 (by have:=ff.q2.2;show _< (65536:Int);omega);have e3:bL (aI 2 (ax gi))=gi:=ef ff.q3.1 (by have:=ff.q3.2;show _< (65536:Int);omega);have e4:bL (aI 2 (ax 1))=1:=ef (⟨by decide,by decide⟩:0<=(1:Int)/\(1:Int)<=1024).1 (by have:=(⟨by decide,by decide⟩:0<=(1:Int)/\(1:Int)<=1024).2;show _< (65536:Int);omega);have e5:bL (aI 4 (ax xa))=xa:=ef ff.q5.1 (by have:=ff.q5.2;show _< (4294967296:Int);omega);have e6:bL (aI 4 (ax st))=st:=ef hk.r1.1 (by have:=hk.r1.2;show _< (4294967296:Int);omega);have e7:bL (aI 4 (ax sz))=sz:=ef hk.r2.1 (by have:=hk.r2.2;show _< (4294967296:Int);omega);unfold OS Zv;simp only [aG,iv,ix,LA,Np,e0,e1,e2,e3,e4,e5,e6,e7];refine λ_=>⟨by simp only [af,aB];omega,by trivial,by decide,by decide,by simp only [af,aB];omega,by simp only [af,aB];omega,λ_=>⟨by trivial,by decide,by decide,λ_=>?_⟩⟩;refine ⟨by decide,by decide,by decide,by decide,λ_=>⟨by trivial,by decide,by decide,by show (2:Int)<=_;simp only [af,aB];omega,by simp only [af,aB];omega,λ_=>⟨by unfold aF;decide,?_⟩⟩⟩;refine ⟨by decide,by decide,by decide,by decide,λ_=>⟨by trivial,by decide,by decide,by show (2:Int)<=_;simp only [af,aB];omega,by simp only [af,aB];omega,λ_=>⟨by unfold aF;decide,?_⟩⟩⟩;refine ⟨by decide,by decide,by decide,by decide,λ_=>⟨by trivial,by decide,by decide,by show (2:Int)<=_;simp only [af,aB];omega,by simp only [af,aB];omega,λ_=>⟨by unfold aF;decide,?_⟩⟩⟩;refine ⟨by decide,by decide,by decide,by decide,λ_=>⟨by trivial,by decide,by decide,by show (2:Int)<=_;simp only [af,aB];omega,by simp only [af,aB];omega,λ_=>⟨by unfold aF;decide,?_⟩⟩⟩;refine ⟨by decide,by decide,by decide,by decide,λ_=>⟨by trivial,by decide,by decide,by show (4:Int)<=_;simp only [af,aB];omega,by simp only [af,aB];omega,λ_=>⟨by unfold aF;decide,?_⟩⟩⟩;refine ⟨by decide,by decide,by decide,by decide,λ_=>⟨by trivial,by decide,by decide,by show (4:Int)<=_;simp only [af,aB];omega,by simp only [af,aB];omega,λ_=>⟨by unfold aF;decide,?_⟩⟩⟩;refine ⟨by decide,by decide,by decide,by decide,λ_=>⟨by trivial,by decide,by decide,by show (4:Int)<=_;simp only [aB];omega,by simp only [aB];omega,λ_=>⟨by unfold aF;decide,?_⟩⟩⟩;refine aw (λhc=>by cases hc) (λ_=>⟨by trivial,by trivial,λ_=>⟨⟨ff,.inl ⟨rfl,hk,rfl,rfl,rfl,rfl⟩⟩,h⟩⟩)
def Hf:Ct
 | [.v (.c (.k (.int .i64 k)))],[],Q=>k=2/\Q (.c (.o 0)) [.sl 227 bP (oG 2)]
 | _,_,_=>False
theorem Uh:cG 136 Hf:=by
 intro args H Q h;unfold Hf at h;split at h
 .obtain ⟨rfl,h⟩:=h;exact vY _ _ _ h
 .cases h
def yZ:Ct
 | [.v (.c cb)],[],Q=>(match (Ty.sl Ty.u8).of [cb] with
  | some (b,[])=>∃ mo ui gi lk xa st sz fr off,(DO mo ui gi lk xa/\zq st sz fr off)/\b=OR mo ui gi lk xa st sz fr off/\Q (.cJ [.agg [.k (.int .i64 2),.k (.int .i64 mo),.k (.int .i64 ui),.k (.int .i64 gi),.k (.int .i64 lk),.k (.int .i64 xa),.k (.int .i64 st),.k (.int .i64 sz),.k (.int .i64 fr),.k (.int .i64 off),.k (.string ⟨#[]⟩)],.c (.k (.int .i64 0))]) []
  | _=>False)
 | _,_,_=>False
def ajn:=(((DH.add rS).add vX).add tp).add Uh
abbrev vu (y0:List (Ty.u8).den):=List.drop 2 (List.drop 2 (vb y0))
abbrev yl (y0:List (Ty.u8).den):=List.take bn (List.drop 2 (vb y0))
abbrev yf (y0:List (Ty.u8).den):=List.take bJ (vu y0)
abbrev xZ (y0:List (Ty.u8).den):=List.take bn (vb y0)
def Br (b:(List (Ty.u8).den)):dE:=λQ=>cM b (yx b (aF .i64 (bL (iP b))->bL (iP b)=di/\(216:Nat)<=cw/\iq<=eW/\(yr (Ty.ok bP nc->bt (bd<=nc.2.1/\nc.2.1<=4/\nc.2.1<=(a7 (List.drop 1 b))/\ 
 fa (List.length (List.drop 1 b))/\(aF .i64 (bL (pN b))->yz (Ty.ok bP na->bt (bd<=na.2.1/\na.2.1<=4/\na.2.1<=(a7 (rA b))/\fa (List.length (rA b))/\(aF .i64 (bL (pL b))->yB 
 (Ty.ok bP mZ->bt (bd<=mZ.2.1/\mZ.2.1<=4/\mZ.2.1<=(a7 (qx b))/\fa (List.length (qx b))/\(aF .i64 (bL (pP b))->aF .i64 dY/\wx (wx (Ty.ok bP mY->bt (bd<=mY.2.1 
 /\mY.2.1<=4/\mY.2.1<=(a7 (Am b))/\fa (List.length (Am b))/\(aF .i64 (bL (mc b))->aF .i64 eX/\fS (ah+1+1+1+1< (↑iq:Int)/\fS (ah+1+1+1+1< (↑iq:Int)/\(Ty.ok bP 
 mX->bt (bd<=mX.2.1/\mX.2.1<=4/\mX.2.1<=(↑(List.length (nz b)):Int)/\List.length (nz b)<=140737488355328/\(aF .i64 (bL (pK b))->aF .i64 fT/\wy (wy (Ty.ok bP mW->bt (bd 
 <=mW.2.1/\mW.2.1<=4/\mW.2.1<=(↑(List.length (List.drop 4 (nz b))):Int)/\xX b (aF .i64 (bL (rn b))->aF .i64 lg/\wz (wz (Ty.ok bP mV->bt (bd<=mV.2.1/\mV.2.1<=4/\mV.2.1 
 <=(↑(List.length (vb b)):Int)/\List.length (vb b)<=140737488355328/\(aF .i64 (bL (xZ b))->Gb (Ty.ok bP rp->bt (bd<=rp.2.1/\rp.2.1<=4/\rp.2.1<=(↑(List.length (List.drop 2 (vb b))):Int)/\ 
 List.length (List.drop 2 (vb b))<=140737488355328/\(aF .i64 (bL (yl b))->Gc (Ty.ok bP rq->bt (bd<=rq.2.1/\rq.2.1<=4/\rq.2.1<=(↑(List.length (vu b)):Int)/\List.length (vu b)<= 
 140737488355328/\(aF .i64 (bL (yf b))->yc (br (bL (iP b)==3) (bt (∃ z r,List.drop bJ (vu b)=z::r/\cW z<=List.length r/\List.length (List.drop 1 (vu b))<=140737488355328/\(yu z r 
 (aF .i64 0->oO (bL (iP b),bL (pN b),bL (pL b),bL (pP b),bL (mc b),bL (pK b),bL (rn b),bL (xZ b),bL (yl b),bL (yf b),fD (mP z r),())/\Q (SV.cJ [S1.agg [.k (qH 
 b),.k (qF b),.k (qE b),.k (qD b),.k (qG b),.k (qC b),.k (.int .i64 (bL (rn b))),.k (.int .i64 (bL (xZ b))),.k (.int .i64 (bL (yl b))),.k (.int .i64 (bL (yf b))),.k (.string (fD (mP 
 z r)))],.c (.k a6)]) [])))) (bt (List.drop bJ (vu b)= []/\(aF .i64 0->oO (bL (iP b),bL (pN b),bL (pL b),bL (pP b),bL (mc b),bL (pK b),bL (rn b),bL (xZ b),bL (yl 
 b),bL (yf b),ByteArray.mk #[],())/\Q (SV.cJ [S1.agg [.k (qH b),.k (qF b),.k (qE b),.k (qD b),.k (qG b),.k (qC b),.k (.int .i64 (bL (rn b))),.k (.int .i64 (bL (xZ b))),.k (.int .i64 (bL 
 (yl b))),.k (.int .i64 (bL (yf b))),.k (.string iz)],.c (.k a6)]) [])))))))))))))))))))))))))))))))))))))))
theorem xE:cG 196 yZ:=by
 intro args H Q h;unfold yZ at h;split at h;rotate_left;cases h;rename_i cb;split at h;rotate_left;cases h;rename_i b hb;refine Wp.said (args':=[.c (.d Ty.u8 b)]) (λE g=>bC.cE (dI hb) (λ_ h=>h)) ?_;clear hb;refine Wp.dJ ajn gO ⟨[],[]⟩ Tryz.f196 (Br b) (unr:=[(5,11)]) ?_;unfold Br qx xX xZ yc yf iz qC qD qE qF qG qH bt mP yl mV mW mX mY mZ na nc yr yu yx yz iP yB mc vu pK pL wx rn dG pN wy rp wz rq fS Gb pP Gc nz eW dP lg cw dY fT cM eX rA a6 rB vb Am ah bd di cC a7 aE fa aL bJ bn cU iq;obtain ⟨mo,ui,gi,lk,xa,st,sz,fr,off,⟨ff,hk⟩,rfl,h⟩:=h;have e0:bL (aI 1 (ax 2))=2:=ef (by decide) (by decide);have e1:bL (aI 2 (ax mo))=mo:=ef ff.q1.1 (by have:=ff.q1.2;show _< (65536:Int);omega);have e2:bL (aI 2 (ax ui))=ui:=ef ff.q2.1 (by have:=ff.q2.2;show _< (65536:Int);omega);have e3:bL (aI 2 (ax gi))=gi:=ef ff.q3.1 (by have:=ff.q3.2;show _< (65536:Int);omega);have e4:bL (aI 2 (ax lk))=lk:=ef (⟨by have:=ff.q4.1;omega,ff.q4.2⟩:0<=(lk:Int)/\(lk:Int)<=1024).1 (by have:=(⟨by have:=ff.q4.1;omega,ff.q4.2⟩:0<=(lk:Int)/\(lk:Int)<=1024).2;show _< (65536:Int);omega);have e5:bL (aI 4 (ax xa))=xa:=ef ff.q5.1 (by have:=ff.q5.2;show _< (4294967296:Int);omega);have e6:bL (aI 4 (ax st))=st:=ef hk.r1.1 (by have:=hk.r1.2;show _< (4294967296:Int);omega);have e7:bL (aI 2 (ax sz))=sz:=ef hk.r2.1 (by have:=hk.r2.2;show _< (65536:Int);omega);have e8:bL (aI 2 (ax fr))=fr:=ef hk.r3.1 (by have:=hk.r3.2;show _< (65536:Int);omega);have e9:bL (aI 1 (ax off))=off:=ef hk.r4.1 (by have:=hk.r4.2;show _< (256:Int);omega);unfold OR Zv;simp only [aG,iv,ix,LA,Np,e0,e1,e2,e3,e4,e5,e6,e7,e8,e9];refine λ_=>⟨by simp only [af,aB];omega,by trivial,by decide,by decide,by simp only [af,aB];omega,by simp only [af,aB];omega,λ_=>⟨by trivial,by decide,by decide,λ_=>?_⟩⟩;refine ⟨by decide,by decide,by decide,by decide,λ_=>⟨by trivial,by decide,by decide,by show (2:Int)<=_;simp only [af,aB];omega,by simp only [af,aB];omega,λ_=>⟨by unfold aF;decide,?_⟩⟩⟩;refine ⟨by decide,by decide,by decide,by decide,λ_=>⟨by trivial,by decide,by decide,by show (2:Int)<=_;simp only [af,aB];omega,by simp only [af,aB];omega,λ_=>⟨by unfold aF;decide,?_⟩⟩⟩;refine ⟨by decide,by decide,by decide,by decide,λ_=>⟨by trivial,by decide,by decide,by show (2:Int)<=_;simp only [af,aB];omega,by simp only [af,aB];omega,λ_=>⟨by unfold aF;decide,?_⟩⟩⟩;refine ⟨by decide,by decide,by decide,by decide,λ_=>⟨by trivial,by decide,by decide,by show (2:Int)<=_;simp only [af,aB];omega,by simp only [af,aB];omega,λ_=>⟨by unfold aF;decide,?_⟩⟩⟩;refine ⟨by decide,by decide,by decide,by decide,λ_=>⟨by trivial,by decide,by decide,by show (4:Int)<=_;simp only [af,aB];omega,by simp only [af,aB];omega,λ_=>⟨by unfold aF;decide,?_⟩⟩⟩;refine ⟨by decide,by decide,by decide,by decide,λ_=>⟨by trivial,by decide,by decide,by show (4:Int)<=_;simp only [af,aB];omega,by simp only [af,aB];omega,λ_=>⟨by unfold aF;decide,?_⟩⟩⟩;refine ⟨by decide,by decide,by decide,by decide,λ_=>⟨by trivial,by decide,by decide,by show (2:Int)<=_;simp only [af,aB];omega,by simp only [af,aB];omega,λ_=>⟨by unfold aF;decide,?_⟩⟩⟩;refine ⟨by decide,by decide,by decide,by decide,λ_=>⟨by trivial,by decide,by decide,by show (2:Int)<=_;simp only [af,aB];omega,by simp only [af,aB];omega,λ_=>⟨by unfold aF;decide,?_⟩⟩⟩;refine ⟨by decide,by decide,by decide,by decide,λ_=>⟨by trivial,by decide,by decide,by show (1:Int)<=_;simp only [aB];omega,by simp only [aB];omega,λ_=>⟨by unfold aF;decide,?_⟩⟩⟩;refine aw (λhc=>by cases hc) (λ_=>⟨by trivial,by trivial,λ_=>⟨⟨ff,.inr (.inl ⟨rfl,hk,rfl⟩)⟩,h⟩⟩)
def He:Ct
 | [.v (.c (.k (.int .i64 k)))],[],Q=>k=3/\Q (.c (.o 0)) [.sl 227 bP (oG 3)]
 | _,_,_=>False
theorem Ug:cG 136 He:=by
 intro args H Q h;unfold He at h;split at h
 .obtain ⟨rfl,h⟩:=h;exact vY _ _ _ h
 .cases h
def yY:Ct
 | [.v (.c cb)],[],Q=>(match (Ty.sl Ty.u8).of [cb] with
  | some (b,[])=>∃ mo ui gi lk xa tg,(DO mo ui gi lk xa/\zp tg)/\b=Mb mo ui gi lk xa tg/\Q (.cJ [.agg [.k (.int .i64 3),.k (.int .i64 mo),.k (.int .i64 ui),.k (.int .i64 gi),.k (.int .i64 lk),.k (.int .i64 xa),.k (.int .i64 0),.k (.int .i64 0),.k (.int .i64 0),.k (.int .i64 0),.k (.string tg)],.c (.k (.int .i64 0))]) []
  | _=>False)
 | _,_,_=>False
def ajm:=((((DH.add rS).add vX).add tp).add xE).add Ug
def Bq (b:(List (Ty.u8).den)):dE:=λQ=>cM b (yx b (aF .i64 (bL (iP b))->bL (iP b)=lh/\(120:Nat)<=cw/\jY<=eW/\(yq (Ty.ok bP mU->bt (bd<=mU.2.1/\mU.2.1<=4/\mU.2.1<=(a7 (List.drop 1 b))/\ 
 fa (List.length (List.drop 1 b))/\(aF .i64 (bL (pN b))->yy (Ty.ok bP mT->bt (bd<=mT.2.1/\mT.2.1<=4/\mT.2.1<=(a7 (rA b))/\fa (List.length (rA b))/\(aF .i64 (bL (pL b))->yA 
 (Ty.ok bP mS->bt (bd<=mS.2.1/\mS.2.1<=4/\mS.2.1<=(a7 (qx b))/\fa (List.length (qx b))/\(aF .i64 (bL (pP b))->aF .i64 dY/\wv (wv (Ty.ok bP mR->bt (bd<=mR.2.1 
 /\mR.2.1<=4/\mR.2.1<=(a7 (Am b))/\fa (List.length (Am b))/\(aF .i64 (bL (mc b))->aF .i64 eX/\fS (ah+1+1+1+1< (↑jY:Int)/\fS (ah+1+1+1+1< (↑jY:Int)/\(Ty.ok bP 
 mQ->bt (bd<=mQ.2.1/\mQ.2.1<=4/\mQ.2.1<=(↑(List.length (nz b)):Int)/\List.length (nz b)<=140737488355328/\(aF .i64 (bL (pK b))->aF .i64 fT/\br (bL (iP b)==3) (bt (∃ z r, 
 List.drop cU (nz b)=z::r/\cW z<=List.length r/\xX b (yu z r (aF .i64 0->oO (bL (iP b),bL (pN b),bL (pL b),bL (pP b),bL (mc b),bL (pK b),ah,ah,ah,ah,fD 
 (mP z r),())/\Q (SV.cJ [S1.agg [.k (qH b),.k (qF b),.k (qE b),.k (qD b),.k (qG b),.k (qC b),.k a6,.k a6,.k a6,.k a6,.k (.string (fD (mP z r)))],.c (.k a6)]) [])))) (bt 
 (List.drop cU (nz b)= []/\(aF .i64 0->oO (bL (iP b),bL (pN b),bL (pL b),bL (pP b),bL (mc b),bL (pK b),ah,ah,ah,ah,ByteArray.mk #[],())/\Q (SV.cJ [S1.agg [.k (qH b),.k 
 (qF b),.k (qE b),.k (qD b),.k (qG b),.k (qC b),.k a6,.k a6,.k a6,.k a6,.k (.string iz)],.c (.k a6)]) []))))))))))))))))))))))))
theorem EE:cG 196 yY:=by
 intro args H Q h;unfold yY at h;split at h;rotate_left;cases h;rename_i cb;split at h;rotate_left;cases h;rename_i b hb;refine Wp.said (args':=[.c (.d Ty.u8 b)]) (λE g=>bC.cE (dI hb) (λ_ h=>h)) ?_;clear hb;refine Wp.dJ ajm gO ⟨[],[]⟩ Tryz.f196 (Bq b) (unr:=[(5,11)]) ?_;unfold Bq qx xX iz qC qD qE qF qG qH bt mP mQ mR mS mT mU yq yu yx yy iP yA mc pK pL wv dG pN fS pP nz eW dP zI cw dY fT cM eX rA a6 Am ah bd lh cC a7 aE fa aL bJ bn cU jY;obtain ⟨mo,ui,gi,lk,xa,tg,⟨ff,hk⟩,rfl,h⟩:=h;have e0:bL (aI 1 (ax 3))=3:=ef (by decide) (by decide);have e1:bL (aI 2 (ax mo))=mo:=ef ff.q1.1 (by have:=ff.q1.2;show _< (65536:Int);omega);have e2:bL (aI 2 (ax ui))=ui:=ef ff.q2.1 (by have:=ff.q2.2;show _< (65536:Int);omega);have e3:bL (aI 2 (ax gi))=gi:=ef ff.q3.1 (by have:=ff.q3.2;show _< (65536:Int);omega);have e4:bL (aI 2 (ax lk))=lk:=ef (⟨by have:=ff.q4.1;omega,ff.q4.2⟩:0<=(lk:Int)/\(lk:Int)<=1024).1 (by have:=(⟨by have:=ff.q4.1;omega,ff.q4.2⟩:0<=(lk:Int)/\(lk:Int)<=1024).2;show _< (65536:Int);omega);have e5:bL (aI 4 (ax xa))=xa:=ef ff.q5.1 (by have:=ff.q5.2;show _< (4294967296:Int);omega);have hl:=hk.len;have uG:tg.data.toList.length=tg.size:=(kz tg).symm;have h8:(az tg.size).toNat=tg.size:=UInt8.toNat_ofNat_of_lt' (by show tg.size< 256;omega);unfold Mb Zv;simp only [aG,iv,ix,e0,e1,e2,e3,e4,e5];refine λ_=>⟨by simp only [af,aB,aq,uG];omega,by trivial,by decide,by decide,by simp only [af,aB,aq,uG];omega,by simp only [af,aB,aq,uG];omega,λ_=>⟨by trivial,by decide,by decide,λ_=>?_⟩⟩;refine ⟨by decide,by decide,by decide,by decide,λ_=>⟨by trivial,by decide,by decide,by show (2:Int)<=_;simp only [af,aB,aq,uG];omega,by simp only [af,aB,aq,uG];omega,λ_=>⟨by unfold aF;decide,?_⟩⟩⟩;refine ⟨by decide,by decide,by decide,by decide,λ_=>⟨by trivial,by decide,by decide,by show (2:Int)<=_;simp only [af,aB,aq,uG];omega,by simp only [af,aB,aq,uG];omega,λ_=>⟨by unfold aF;decide,?_⟩⟩⟩;refine ⟨by decide,by decide,by decide,by decide,λ_=>⟨by trivial,by decide,by decide,by show (2:Int)<=_;simp only [af,aB,aq,uG];omega,by simp only [af,aB,aq,uG];omega,λ_=>⟨by unfold aF;decide,?_⟩⟩⟩;refine ⟨by decide,by decide,by decide,by decide,λ_=>⟨by trivial,by decide,by decide,by show (2:Int)<=_;simp only [af,aB,aq,uG];omega,by simp only [af,aB,aq,uG];omega,λ_=>⟨by unfold aF;decide,?_⟩⟩⟩;refine ⟨by decide,by decide,by decide,by decide,λ_=>⟨by trivial,by decide,by decide,by show (4:Int)<=_;simp only [af,aB,aq,uG];omega,by simp only [af,aB,aq,uG];omega,λ_=>⟨by unfold aF;decide,?_⟩⟩⟩;refine aw (λ_=>⟨by trivial,az tg.size,tg.data.toList,by trivial,by omega,by simp only [aq,uG];omega,λ_=>?_⟩) (λhc=>by cases hc);rw [h8,<-uG,eN,List.drop_length,zb];exact ⟨by trivial,by trivial,λ_=>⟨⟨ff,.inr (.inr ⟨rfl,hk,rfl,rfl,rfl,rfl⟩)⟩,h⟩⟩
structure WB (A:Value->Atom) (T:List Int) (R:List UInt8) (fs:List (List UInt8)):Prop where ex:∃ x y,A=jM [.cells 150 [.de (.int .u32) T 0 0,.o 1,.o 2],.sl 5 .u8 x,.sl 5 .u8 y]/\T.length=256/\MW T x y R fs
structure RB (A:Value->Atom) (fs:List (List UInt8)) (R:List UInt8):Prop where ex:∃ T im a c M,A=jM [.cells 245 [.de (.int .u32) T 0 0,.d .u8 im,.k (.int .i64 a),.k (.int .i64 c),.m 1],.map 3 .int dW M]/\T.length=256/\im.length<=100000000/\R.length<=10000000/\iI T im a c fs R M
def AP:Ct
 | [.v (.c (.p 0 0)),.v (.c cb)],[.abs A],Q=>(match (Ty.sl Ty.u8).of [cb] with
  | some (b,[])=>∃ T R fs,WB A T R fs/\R.length+b.length<=10000000/\∀ A' (r:Nat) fs',WB A' T (R++b) (fs++fs')->(∀ gs,r=dU (fs++gs) R.length)->Q (.int r) [.abs A']
  | _=>False)
 | _,_,_=>False
theorem vW:cG 54 AP:=λargs H Q h=>by
 unfold AP at h;split at h
 .refine A6 _ _ _ ?_;rename_i Q cb A;split at h;rotate_left
  .cases h
  rename_i b hb;obtain ⟨T,R,fs,⟨x,y,rfl,hT,hm⟩,hl,h⟩:=h;refine ⟨T,x,y,rfl,?_⟩;unfold AQ;simp only [hb];refine ⟨R,fs,hT,hm,hl,λx' y' fs' hm'=>?_⟩;exact h _ (256*x.length+y.length) fs' ⟨_,_,rfl,hT,hm'⟩ (λgs=>hm.ref gs)
 .cases h
def NA:Ct
 | [.v (.c (.p 0 0))],[.abs A],Q=>∃ T R fs,WB A T R fs/\R.length<=10000000/\∀ A' fs',k7 T (fs++fs') R->Q (.c (.d .u8 (fs++fs').flatten)) [.abs A']
 | _,_,_=>False
theorem AX:cG 55 NA:=λargs H Q h=>by
 unfold NA at h;split at h
 .refine Ey _ _ _ ?_;rename_i Q A;obtain ⟨T,R,fs,⟨x,y,rfl,hT,hm⟩,hl,h⟩:=h;refine ⟨T,x,y,rfl,?_⟩;unfold xl;refine ⟨R,fs,hT,hm,hl,λfs' hf=>?_⟩;exact h _ fs' hf
 .cases h
def NF:Ct
 | [.v (.c (.p 0 0)),.v (.c (.k (.int .i64 r))),.v (.c (.k (.int .i64 n)))],[.abs A],Q=>∃ fs R,RB A fs R/\∃ o:Nat,o<=R.length/\r=(dU fs o:Int)/\(0<=n/\n<=10000000)/\∀ A' z nx e,RB A' fs R->pc fs R o n.toNat z nx e->Q (.cJ [.c (.d .u8 z),.c (.k (.int .i64 nx)),.c (.k (.int .i64 e))]) [.abs A']
 | _,_,_=>False
theorem Ka:cG 147 NF:=λargs H Q h=>by
 unfold NF at h;split at h
 .refine Ez _ _ _ ?_;rename_i Q r n A;obtain ⟨fs,R,⟨T,im,a,c,M,rfl,hT,hi,hR,hm⟩,o,ho,hr,hn,h⟩:=h;refine ⟨T,im,a,c,M,rfl,?_⟩;unfold xm;refine ⟨fs,R,hT,hi,hm,o,ho,hR,hr,hn,λz nx e M' hm' hz=>?_⟩;exact h _ z nx e ⟨_,_,_,_,_,rfl,hT,hi,hR,hm'⟩ hz
 .cases h
def Td:Ct
 | [.v (.c (.de (.int .u32) T 0 0))],[],Q=>T.length=256/\∀ A,WB A T [] []->Q (.c (.p 0 0)) [.abs A]
 | _,_,_=>False
theorem Hz:cG 47 Td:=λargs H Q h=>by
 unfold Td at h;split at h
 .refine Kd _ _ _ ?_;exact h.2 _ ⟨[],[],rfl,h.1,MW.nil _⟩
 .cases h
def NG:Ct
 | [.v (.c (.de (.int .u32) T 0 0)),.v (.c ci),.v (.c (.k (.int .i64 a))),.v (.c (.k (.int .i64 c)))],[],Q=>(match (Ty.sl Ty.u8).of [ci] with
  | some (im,[])=>(T.length=256/\im.length<=100000000)/\∃ fs R,R.length<=10000000/\iI T im a c fs R []/\∀ A,RB A fs R->Q (.c (.p 0 0)) [.abs A]
  | _=>False)
 | _,_,_=>False
theorem Kb:cG 103 NG:=λargs H Q h=>by
 unfold NG at h;split at h
 .rename_i Q T ci a c;split at h;rotate_left
  .cases h
  rename_i im hb;obtain ⟨⟨hT,hi⟩,fs,R,hR,hm,h⟩:=h;refine EA _ _ _ ?_;unfold Hc xn;simp only [hb];exact ⟨hi,h _ ⟨_,_,_,_,_,rfl,hT,hi,hR,hm⟩⟩
 .cases h
def NN:Ct
 | [.v (.c cb)],[],Q=>(match (Ty.sl Ty.u8).of [cb] with
  | some (b,[])=>∃ i,oO i/\b=fK i/\Q (.cJ [.agg (eE.cells i),.c (.k (.int .i64 0))]) []
  | _=>False)
 | _,_,_=>False
theorem WO:cG 196 NN:=by
 intro args H Q h;unfold NN at h;split at h;rotate_left;cases h;rename_i Q cb;split at h;rotate_left;cases h;rename_i b hb;obtain ⟨⟨k0,mo,ui,gi,lk,xa,st,sz,fr,off,tg,⟨⟩⟩,⟨hc,ho⟩,rfl,h⟩:=h;rcases ho with ⟨e,ho⟩| ⟨e,ho⟩| ⟨e,ho⟩
 .obtain ⟨h1,h2,h3,h4,h5⟩:=ho;have e:k0=1:=e;have h2:lk=1:=h2;have h3:fr=0:=h3;have h4:off=0:=h4;have h5:tg=⟨#[]⟩:=h5;subst e h2 h3 h4 h5;refine tp _ _ _ ?_;unfold za;simp only [hb];exact ⟨mo,ui,gi,xa,st,sz,⟨hc,h1⟩,rfl,h⟩
 .have e:k0=2:=e;have h5:tg=⟨#[]⟩:=ho.2;subst e h5;refine xE _ _ _ ?_;unfold yZ;simp only [hb];exact ⟨mo,ui,gi,lk,xa,st,sz,fr,off,⟨hc,ho.1⟩,rfl,h⟩
 .obtain ⟨h1,h2,h3,h4,h5⟩:=ho;have e:k0=3:=e;have h2:st=0:=h2;have h3:sz=0:=h3;have h4:fr=0:=h4;have h5:off=0:=h5;subst e h2 h3 h4 h5;refine EE _ _ _ ?_;unfold yY;simp only [hb];exact ⟨mo,ui,gi,lk,xa,tg,⟨hc,h1⟩,rfl,h⟩
def ZS:Ct:=cP<| cI λr=>cO λH Q=>match H with
 | [.abs A]=>∃ fs R,RB A fs R/\∃ o:Nat,o<=R.length/\r=(dU fs o:Int)/\∃ i q,oO i/\R.drop o=fK i++q/\∀ A',RB A' fs R->Q (.cJ [.agg (eE.cells i),.c (.k (.int .i64 (dU fs (o+(fK i).length):Nat))),.c (.k (.int .i64 0))]) [.abs A']
 | _=>False
def aaW:=((((((((((DH.add rS).add vX).add tp).add xE).add EE).add vW).add AX).add Ka).add Hz).add Kb).add WO
abbrev O6:=SV.cJ [S1.agg [.k a6,.k a6,.k a6,.k a6,.k a6,.k a6,.k a6,.k a6,.k a6,.k a6,.k (.string (ByteArray.mk #[]))],.c (.k a6),.c (.k (.int .i64 2))]
abbrev vp {A1:Type} (y0) (y1:List A1) (y2:Int) (y3) (y4:Int) (R:Prop):=y0<=List.length y1/\y2=(↑(dU y3 y0):Int)/\(0<=y4/\y4<=10000000)/\R
abbrev Io (y0:List UInt8):=bd+(↑(cW (aK Ty.u8 y0 (13:Int))):Int)
abbrev Ig (y0:List UInt8):=(↑(List.length (oG (fM y0))):Int)
def Ff (r:Int) (A:Value->Atom):dE:=λQ=>aF .i64 r->∃ fs R,RB A fs R/\∃ o,o<=List.length R/\r=(↑(dU fs o):Int)/\(ah<=(14:Int)/\(14:Int)<=(10000000:Int))/\∀ (A':Value->Atom) (z:List UInt8) (nx e:Int),RB A' fs R->pc fs R o (14: 
 Nat) z nx e->cY z (cj nx e (br (e !=0) (Q O6 [HO.abs A']) (ah<=ah/\ah< (aE z)/\(kJ z (List.length (oG (fM z))<=9223372036854775807->bp (λi ag=>br (decide (i.1.1< (Ig z))) (0<=i.1.1/\ 
 i.1.1< (Ig z)/\0<=i.1.1/\i.1.1< (Ig z)/\(Ty.ok bP (aK bP (oG (fM z)) i.1.1)->aF .i64 (i.1.2.1+(aK bP (oG (fM z)) i.1.1).2.1)/\cL i.1.1 (ag ((i.1.1+1,i.1.2.1+(aK bP (oG (fM z)) 
 i.1.1).2.1,()),())))) (cV (λk=>ah<=ah/\ah< (aE z)/\(kJ z (br ((fM z)==3) (ah<=(13:Int)/\(13:Int)< (aE z)/\(Ty.ok Ty.u8 (aK Ty.u8 z (13:Int))->aF .i64 (Io z)/\aF .i64 (i.1.2.1+ 
 (Io z))/\k ((i.1.2.1+(Io z),()),()))) (k (i.1.2,()))))) λi=>∃ fs R,RB A' fs R/\∃ o,vp o R r fs i.1.1 (∀ (A':Value->Atom) (z:List UInt8) (nx e:Int),RB A' fs R->pc fs R o (aZ i.1.1) z nx e->cY z 
 (cj nx e (br (e !=0) (Q O6 [HO.abs A']) (∃ i,oO i/\z=fK i/\(cA i.1 i.2.1 i.2.2.1 (cA i.2.2.2.1 i.2.2.2.2.1 i.2.2.2.2.2.1 (cA i.2.2.2.2.2.2.1 i.2.2.2.2.2.2.2.1 i.2.2.2.2.2.2.2.2.1 (aF .i64 i.2.2.2.2.2.2.2.2.2.1-> 
 aL (dr i.2.2.2.2.2.2.2.2.2.2.1)->aF .i64 0->Q (SV.cJ [S1.agg [.k (aC i.1),.k (aC i.2.1),.k (aC i.2.2.1),.k (aC i.2.2.2.1),.k (aC i.2.2.2.2.1),.k (aC i.2.2.2.2.2.1),.k (aC i.2.2.2.2.2.2.1),.k (aC 
 i.2.2.2.2.2.2.2.1),.k (aC i.2.2.2.2.2.2.2.2.1),.k (aC i.2.2.2.2.2.2.2.2.2.1),.k (.string i.2.2.2.2.2.2.2.2.2.2.1)],.c (.k (aC nx)),.c (.k a6)]) [HO.abs A'])))))))))) ((ah,(13:Int),()),()))))))
theorem Km:cG 148 ZS:=fz<| rJ<| nG λr=>rK λH Q h=>by
 split at h;rotate_left;cases h;rename_i A;refine Wp.dJ aaW gO ⟨[(7,⟨[(28,.int .i64),(9,.int .i64)],[]⟩)],[(13,⟨[(9,.int .i64)],[]⟩)]⟩ Tryz.f148 (Ff r A) ?_;unfold Ff Ig kJ Io vp O6 cY dr cj cL aZ a6 cA fM aC ah bd aE aL;obtain ⟨fs,R,hR,o,ho,rfl,i,q,hi,hd,h⟩:=h;have hl:=congrArg List.length hd;rw [aN,af] at hl;have hn:=RV hi;have hk:i.1=1\/i.1=2\/i.1=3:=by rcases hi.or with ⟨e,_⟩| ⟨e,_⟩| ⟨e,_⟩;exact .inl e;exact .inr (.inl e);exact .inr (.inr e)
 have h200:i.1=3->0< i.2.2.2.2.2.2.2.2.2.2.1.size/\i.2.2.2.2.2.2.2.2.2.2.1.size<=200:=λe3=>by rcases hi.or with ⟨e,_⟩| ⟨e,_⟩| ⟨e,hL,_⟩;rw [e] at e3;cases e3;rw [e] at e3;cases e3;exact hL.len
 have h15:14<=(fK i).length/\(fK i).length<=214:=by
  rcases hk with e| e| e;rw [hn,if_pos e];decide;rw [hn,if_neg (by rw [e];decide),if_pos e];decide
  .have:=h200 e;rw [hn,if_neg (by rw [e];decide),if_neg (by rw [e];decide)];omega
 refine λ_=>⟨fs,R,hR,o,ho,rfl,⟨by decide,by decide⟩,λA' z nx e hR hz _ _ _=>?_⟩;obtain ⟨rfl,rfl,rfl⟩:=hz.ok (by omega);obtain ⟨t,ht⟩:=Ma hi;have As:((aK .u8 ((R.drop o).take 14) 0).toNat:Int)=i.1:=by
  rw [hd,ht];show ((az i.1.toNat).toNat:Int)=i.1;rcases hk with e| e| e<;>rw [e]<;>rfl
 have anc:i.1=3->((aK .u8 ((R.drop o).take 14) 13).toNat:Int)=i.2.2.2.2.2.2.2.2.2.2.1.size:=λe=>by
  have hlen:=h200 e;have h13:=acV (i:=i) e;have e2:((R.drop o).take 14)[13]?=some (az i.2.2.2.2.2.2.2.2.2.2.1.size):=by
   rw [List.getElem?_take_of_lt (by decide),hd,aV (by omega),h13]
  unfold aK;rw [ba,show (13:Int).toNat=13 from rfl,e2];show ((az i.2.2.2.2.2.2.2.2.2.2.1.size).toNat:Int)=_;rw [UInt8.toNat_ofNat_of_lt' (by show i.2.2.2.2.2.2.2.2.2.2.1.size< 256;omega)]
 have Of:((R.drop o).take 14).length=14:=by rw [aA,aN];omega
 refine aw (λhc=>by cases hc) (λ_=>⟨by decide,by omega,λ_ _=>?_⟩);rw [As,Of];have hB:∀ x∈oG i.1,0<=(x.2.1:Int)/\(x.2.1:Int)<=4:=by rcases hk with e| e| e<;>rw [e]<;>decide
 have hF:(oG i.1).length<=4:=by rcases hk with e| e| e<;>rw [e]<;>decide
 have hS:13+uW (oG i.1)=if i.1=1 then 21 else if i.1=2 then 22 else 13:=by rcases hk with e| e| e<;>rw [e]<;>rfl
 refine bp.intro (λj=>0<=j.1.1/\j.1.1<=(oG i.1).length/\j.1.2.1=13+uW ((oG i.1).take j.1.1.toNat)) (λj=>((oG i.1).length - j.1.1).toNat) ⟨bz _,by show (0:Int)<=_;omega,rfl⟩ ?_;rintro ⟨⟨j,n,_⟩,_⟩ ⟨j0,j1,hj⟩;simp only at j0 j1 hj ⊢;subst hj;refine aw (λhc=>?_) (λhc=>?_)
 .have hc:j< ((oG i.1).length:Int):=of_decide_eq_true hc;have h1:=Us j0 hc;have h2:=RH (l:=oG i.1) (j+1).toNat hB;rw [Int.add_assoc,<-h1];exact ⟨j0,hc,j0,hc,λ_=>⟨by unfold aF;omega,by unfold aF;omega,⟨by omega,by omega,rfl⟩,by omega⟩⟩
 .have hc:¬j< ((oG i.1).length:Int):=of_decide_eq_false hc;rw [aT (l:=oG i.1) (i:=j.toNat) (by omega),hS];refine cV.intro (λk=>k.1.1=(fK i).length) ⟨by decide,by decide,λ_=>aw (λh3=>?_) (λh3=>?_)⟩ ?_
  .have h3:i.1=3:=eq_of_beq h3;have:=h200 h3;rw [anc h3];refine ⟨by decide,by decide,λ_=>⟨by unfold aF;omega,?_,?_⟩⟩
   .rw [if_neg (by rw [h3];decide),if_neg (by rw [h3];decide)];unfold aF;omega
   .dsimp only;rw [hn,if_neg (by rw [h3];decide),if_neg (by rw [h3];decide),if_neg (by rw [h3];decide),if_neg (by rw [h3];decide)];omega
  .have h3:¬i.1=3:=λe=>by rw [e] at h3;cases h3
   show _=_;rw [hn];rcases hk with e| e| e;rw [if_pos e,if_pos e];rfl;rw [if_neg (by rw [e];decide),if_pos e,if_neg (by rw [e];decide),if_pos e];rfl;exact absurd e h3
  .rintro ⟨⟨n,_⟩,_⟩ hn2;simp only at hn2 ⊢;subst hn2;refine ⟨fs,R,hR,o,ho,rfl,⟨by omega,by omega⟩,λA' z nx e hR hz _ _ _=>?_⟩;rw [aU] at hz;obtain ⟨rfl,rfl,rfl⟩:=hz.ok (by omega);refine aw (λhc=>by cases hc) (λ_=>⟨i,hi,?_,?_⟩)
   .rw [hd,List.take_left]
   .exact λ_ _ _ _ _ _ _ _ _ _ _ _=>h A' hR
end Go.Proofs

namespace Go.LmN
open Go.Lm
open Go Go.RowKit

def SU (a b:ByteArray):Bool:=a.toList==b.toList
section
variable {a b:List ByteArray} {k X:Int}
end

def RO:List ByteArray->List ByteArray->Bool
 | [],[]=>true
 | a::al,b::bs=>SU a b&& RO al bs
 | _,_=>false
section
variable {a b:List ByteArray} {k:Int} {X:Bool}
end
section
variable {a b:List ByteArray} {k:Int} {X:Bool}
end
end Go.LmN
namespace Go.LmN
open Go.Lm
open Go Go.RowKit

def aai (c:UInt8):Bool:=c==0|| c==47
def Ax (s:ByteArray) (p:Nat):Bool:=(s.data.toList.drop p).any aai
def aiB (s:ByteArray):Bool:=s.toList==(⟨#[]⟩:ByteArray).toList|| (s.toList==(⟨#[46]⟩:ByteArray).toList|| s.toList==(⟨#[46,46]⟩:ByteArray).toList)
def dA (s:ByteArray):Int:=if (s.size:Int)>255 then 23 else if aiB s|| Ax s 0 then 22 else 0
theorem gF (s:ByteArray):s.size=s.data.toList.length:=by
 rw [dq];rfl
theorem Za (s:ByteArray) (p:Nat) (h:p< s.size):s.data.toList[p]'(by rw [<-gF];exact h)=s[p]:=by
 obtain ⟨d⟩:=s;simp [ByteArray.getElem_eq_getElem_data]
theorem Hm (s:ByteArray) (p:Nat) (h:p< s.size):Ax s p=(aai s[p]|| Ax s (p+1)):=by
 unfold Ax;rw [cg (by rw [<-gF];exact h),List.any_cons,Za s p h]
theorem aaj (s:ByteArray) (p:Nat) (h:¬p< s.size):Ax s p=false:=by
 unfold Ax;rw [ik (by rw [<-gF];omega)];rfl
theorem Zb (s:ByteArray) (p:Nat) (h:p< s.size):s.get! p=s[p]:=by
 have:=get_at s p h;simpa using this
theorem Ns (s:ByteArray) (p:Nat) (h:p< s.size) (ha:128<=(s[p]'h).toNat) (k:Nat) (hk:1<=k) (PO:k< (Utf8.decode s p).2):∃ h':p+k< s.size,128<=(s[p+k]'h').toNat:=by
 have cont:∀ j,(decide (p+j< s.size)&& (s.get! (p+j)).toNat / 64==2)=true->∃ h':p+j< s.size,128<=(s[p+j]'h').toNat:=λj hj=>by
  simp only [ao,decide_eq_true_eq,beq_iff_eq] at hj;refine ⟨hj.1,?_⟩;rw [<-Zb s (p+j) hj.1];omega
 have h0:¬(s.get! (p+0)).toNat< 128:=by rw [get_at s p h];omega
 unfold Utf8.decode at PO;simp only [h0,if_false] at PO;split at PO
 .rename_i h2;simp only [ao] at h2;split at PO
  .have:k=1:=by simp at PO;omega
   subst this;exact cont 1 (by simpa using h2.2)
  .simp at PO;omega
 .split at PO
  .rename_i _ h2;simp only [ao] at h2;split at PO
   .have:k=1\/k=2:=by simp at PO;omega
    rcases this with rfl| rfl;exact cont 1 (by simpa using h2.1.2);exact cont 2 (by simpa using h2.2)
   .simp at PO;omega
  .split at PO
   .rename_i _ _ h2;simp only [ao] at h2;split at PO
    .have:k=1\/k=2\/k=3:=by simp at PO;omega
     rcases this with rfl| rfl| rfl;exact cont 1 (by simpa using h2.1.1.2);exact cont 2 (by simpa using h2.1.2);exact cont 3 (by simpa using h2.2)
    .simp at PO;omega
   .simp at PO;omega
theorem VR {c:UInt8} (h:128<=c.toNat):aai c=false:=by
 unfold aai;have h0:c≠0:=λe=>by subst e;simp at h
 have h1:c≠47:=λe=>by subst e;simp at h
 simp [h0,h1]
theorem NZ (s:ByteArray) (p:Nat):∀ n,(∀ k,k< n->∃ h':p+k< s.size,128<=(s[p+k]'h').toNat)->Ax s p=Ax s (p+n)
 | 0,_=>rfl
 | n+1,h=>by
  rw [NZ s p n λk hk=>h k (by omega)];obtain ⟨h',hb⟩:=h n (by omega);rw [Hm s (p+n) h',VR hb];rfl
theorem P4 (s:ByteArray) (p:Nat) (h:p< s.size):1<=(Utf8.decode s p).2:=by
 by_cases ha:(s[p]'h).toNat< 128;rw [decode_ascii s p h ha];exact ay _;exact (decode_high s p h (by omega)).2
theorem VS (s:ByteArray) (p:Nat) (h:p< s.size):
  Ax s p=((((Utf8.decode s p).1:Int)==0|| ((Utf8.decode s p).1:Int)==47)|| Ax s (p+(Utf8.decode s p).2)):=by
 by_cases ha:(s[p]'h).toNat< 128
 .rw [decode_ascii s p h ha,Hm s p h];congr 1;unfold aai;have e:∀ m:Nat,m< 256->(s[p]==az m)=(((s[p]).toNat:Int)==(m:Int)):=λm hm=>by
   rw [Bool.eq_iff_iff];simp only [beq_iff_eq,<-UInt8.toNat_inj,UInt8.toNat_ofNat'];omega
  exact congr (congrArg _ (e 0 (by omega))) (e 47 (by omega))
 .have ha':128<=(s[p]'h).toNat:=by omega
  obtain ⟨h1,h2⟩:=decode_high s p h ha';have e0:(((Utf8.decode s p).1:Int)==0)=false:=by simp;omega
  have e1:(((Utf8.decode s p).1:Int)==47)=false:=by simp;omega
  rw [e0,e1];simp only [Bool.or_self,Bool.false_or];refine NZ s p _ λk hk=>?_;by_cases hk0:k=0;subst hk0;exact ⟨h,ha'⟩;exact Ns s p h ha' k (by omega) hk
end Go.LmN
namespace Go.LmN
open Go.Lm
open Go Go.RowKit

def Zl (s:ByteArray):Bool:=s.toList==(⟨#[]⟩:ByteArray).toList
def alr (s:ByteArray):Bool:=s.toList==(⟨#[46]⟩:ByteArray).toList
def ajf (s:ByteArray):Bool:=s.toList==(⟨#[46,46]⟩:ByteArray).toList
section
variable {ps acc:List ByteArray} {dir:Bool} {k:Int} {X:List ByteArray×Bool×Int}
end
end Go.LmN
namespace Go.LmN
open Go.Lm
open Go Go.RowKit

abbrev Row:=List (List UInt8)
def key (a:List ByteArray):Row:=a.map ByteArray.toList
theorem xN:∀ a b:List ByteArray,RO a b=decide (key a=key b)
 | [],[]=>rfl
 | [],_::_=>rfl
 | _::_,[]=>rfl
 | a::al,b::bs=>by
  show (SU a b&& RO al bs)=decide (a.toList::key al=b.toList::key bs);rw [xN al bs];have:SU a b=decide (a.toList=b.toList):=by unfold SU;rw [Bool.eq_iff_iff];simp
  rw [this,Bool.eq_iff_iff];simp
end Go.LmN
namespace Go.LmN
open Go.Lm
open Go Go.RowKit

theorem MT:∀ {p:List UInt8},(47:UInt8) ∉ p->Lib.index p [47]= -1
 | [],_=>rfl
 | b::p,h=>by
  have hb:(b==47)=false:=by simp only [bm,not_or] at h;simpa using λe=>h.1 e.symm
  have hp:([47]:List UInt8).isPrefixOf (b::p)=false:=by simp [List.isPrefixOf];intro e;exact absurd e.symm (by simpa using hb)
  rw [Lib.index,hp,MT (λe=>h (aH _ e))];rfl
theorem Jj:∀ {p:List UInt8} (q:List UInt8),(47:UInt8) ∉ p->Lib.index (p++47::q) [47]=(p.length:Nat)
 | [],q,_=>by rw [dQ,Lib.index];simp [List.isPrefixOf]
 | b::p,q,h=>by
  have hb:(b==47)=false:=by simp only [bm,not_or] at h;simpa using λe=>h.1 e.symm
  have hp:([47]:List UInt8).isPrefixOf (b::(p++47::q))=false:=by simp [List.isPrefixOf];intro e;exact absurd e.symm (by simpa using hb)
  rw [eO,Lib.index,hp,Jj q (λe=>h (aH _ e))];rw [if_neg (by simp),if_neg (by simp)];simp
theorem OC {p:List UInt8} (h:(47:UInt8) ∉ p):Lib.split p [47]= [p]:=by
 unfold Lib.split;rw [Lib.count_miss (MT h)];rfl
theorem Uw {p q:List UInt8} (h:(47:UInt8) ∉ p):Lib.split (p++47::q) [47]=p::Lib.split q [47]:=by
 unfold Lib.split;have hd:(p++47::q).drop (p.length+1)=q:=by rw [List.drop_append];simp
 rw [Lib.count_hit (by simp) (Jj q h),show p.length+([47]:List UInt8).length=p.length+1 from rfl,hd,Nat.add_comm 1,Lib.splitK,Jj q h,if_neg (by simp)];rw [aU,jP,show p.length+([47]:List UInt8).length=p.length+1 from rfl,hd];simp
theorem aal {a b:ByteArray} (h:a.data.toList=b.data.toList):a=b:=by
 cases a with| mk a=>cases b with| mk b=>simp at h;rw [h]
theorem JK:∀ {a b:List ByteArray},a.map (·.data.toList)=b.map (·.data.toList)->a=b
 | [],[],_=>rfl
 | [],_::_,h=>by simp at h
 | _::_,[],h=>by simp at h
 | x::a,y::b,h=>by
  simp only [bX,List.cons.injEq] at h;rw [aal h.1,JK h.2]
section
variable {s last:ByteArray} {a k:Int} {acc:List ByteArray} {R:List ByteArray×Bool×Int}
end
theorem Zj (a b:ByteArray):SU a b=(a.data.toList==b.data.toList):=by unfold SU;rw [Lib.toList_data,Lib.toList_data]
theorem Nn (s:ByteArray):Zl s=(s.data.toList== []):=Zj s ⟨#[]⟩
end Go.LmN
namespace Go.LmN
open Go.Lm
open Go Go.RowKit

def jn:ByteArray->List ByteArray->ByteArray
 | acc,[]=>acc
 | acc,x::r=>jn (acc++⟨#[47]⟩++x) r
def jr (l:List ByteArray):ByteArray:=if l.length=0 then ⟨#[47]⟩ else jn ⟨#[]⟩ l
def jm (l:List ByteArray):List UInt8:=(l.map λx=>47::x.data.toList).flatten
theorem xr (a b:ByteArray):(a++b).data.toList=a.data.toList++b.data.toList:=by simp [ByteArray.data_append]
theorem SC:∀ (l:List ByteArray) (acc:ByteArray),(jn acc l).data.toList=acc.data.toList++jm l
 | [],acc=>by simp [jn,jm]
 | x::r,acc=>by
  show (jn (acc++⟨#[47]⟩++x) r).data.toList=_;rw [SC r,xr,xr];simp [jm]
theorem oC (l:List ByteArray):(jr l).data.toList=if l.length=0 then [47] else jm l:=by
 unfold jr;split;rfl;rw [SC];rfl
theorem xH (l:List ByteArray) (h:l.length≠0):jm l=47::Lib.join (l.map (·.data.toList)) [47]:=by
 cases l with
 | nil=>simp at h
 | cons x r=>
  rw [bX,Lib.join_cons];have:∀ r:List ByteArray,jm r=Lib.joinTail [47] (r.map (·.data.toList)):=λr=>by simp [jm,Lib.joinTail];rfl
  rw [<-this];simp [jm]
theorem yJ (l:List ByteArray):(⟨#[47]⟩:ByteArray)++⟨(Lib.join (l.map (·.data.toList)) [47]).toArray⟩=jr l:=by
 apply aal;rw [xr,oC];split
 .rename_i h;obtain rfl:=aJ h;simp [Lib.join_nil]
 .rename_i h;rw [xH l h];simp
theorem N0 (a b:ByteArray):(a++b).size=a.size+b.size:=by rw [gF,xr,af,<-gF,<-gF]
section
variable {l:List ByteArray} {k:Int} {acc R:ByteArray}
end
theorem YK (l:List ByteArray):(Lib.join (l.map (·.data.toList)) [47]).length<=(jr l).size:=by
 rw [<-yJ,N0];have:(⟨(Lib.join (l.map (·.data.toList)) [47]).toArray⟩:ByteArray).size=(Lib.join (l.map (·.data.toList)) [47]).length:=by rw [gF]
 omega
theorem Ve (l:List ByteArray):(jr l).size=1+(Lib.join (l.map (·.data.toList)) [47]).length:=by
 rw [<-yJ,N0];have:(⟨(Lib.join (l.map (·.data.toList)) [47]).toArray⟩:ByteArray).size=(Lib.join (l.map (·.data.toList)) [47]).length:=by rw [gF]
 rw [this];rfl
theorem LB {m:Nat}:∀ l:List ByteArray,(∀ x∈l,x.size<=m)->(jm l).length<=l.length*(m+1)
 | [],_=>by simp [jm]
 | x::r,h=>by
  have h1:=LB r λy hy=>h y (aH _ hy);have h2:=h x aX;have:(jm (x::r)).length=1+x.size+(jm r).length:=by have:=gF x;simp [jm];omega
  rw [this,aq,fg];omega
theorem LC:∀ l:List ByteArray,l.length<=(jm l).length
 | []=>by simp [jm]
 | x::r=>by
  have h1:=LC r;have:(jm (x::r)).length=1+x.size+(jm r).length:=by have:=gF x;simp [jm];omega
  rw [this,aq];omega
theorem YM {m:Nat} {l:List ByteArray} (h:∀ x∈l,x.size<=m):(jr l).size<=1+l.length*(m+1):=by
 rw [gF,oC];split;simp;have:=LB l h;omega
theorem PA {g w:World} {v:Value} {l:List ByteArray} (h:Is g v l) (hs:bx g w) (hl:l≠ []):
  ∃ bk o c,v= .slice (some ⟨bk,o,none⟩) l.length c/\(∀ (j:Nat) x,l[j]?=some x->w.cell? ⟨bk,o+j,none⟩=some (.string x))/\bk< w.heap.size/\l.length<=c:=by
 rcases dv.1 h with ⟨_,e⟩| ⟨⟨bk,o,sp⟩,cap,hv,hc,_,hx⟩;exact absurd e hl
 .obtain ⟨x,r,rfl⟩:=List.exists_cons_of_ne_nil hl;have GB:sp=none:=by
   obtain ⟨cs,h1,h2,_⟩:=hx 0 x rfl;have k0:=h1 0 (.string x) (by rw [h2];rfl);have e:(Addr.mk bk o sp).add (0*aO.size ByteArray+0)=⟨bk,o,sp⟩:=by simp [Addr.add]
   rw [e] at k0;unfold World.cell? at k0;split at k0
   .split at k0
    .cases k0
    .rename_i hn;simpa using hn
   .cases k0
  subst GB;have key:∀ (j:Nat) y,(x::r)[j]?=some y->w.cell? ⟨bk,o+j,none⟩=some (.string y):=λj y hj=>by
   obtain ⟨cs,h1,h2,_⟩:=hx j y hj;have:=h1 0 (.string y) (by rw [h2];rfl);have e:(Addr.mk bk o none).add (j*aO.size ByteArray+0)=⟨bk,o+j,none⟩:=by
    simp [Addr.add,aO.size]
   rw [e] at this;exact hs _ _ this
  exact ⟨bk,o,cap,hv,key,World.block_lt_of_cell? w _ (key 0 x rfl),hc⟩
end Go.LmN
namespace Go.LmN
open Go.Lm
open Go Go.RowKit

theorem rT {x:ByteArray} (h:dA x=0):x.size<=255/\Zl x=false/\alr x=false/\ajf x=false/\(47:UInt8) ∉ x.data.toList:=by
 unfold dA at h;split at h;cases h
 .rename_i hs;split at h
  .cases h
  .rename_i hd;simp only [lp,not_or,Bool.not_eq_true] at hd;obtain ⟨h1,h2⟩:=hd;unfold aiB at h1;simp only [Bool.or_eq_false_iff] at h1;refine ⟨by omega,h1.1,h1.2.1,h1.2.2,λhm=>?_⟩;unfold Ax at h2;rw [pD,List.any_eq_false] at h2;exact absurd (h2 47 hm) (by decide)
theorem uX:∀ {l:List (List UInt8)},l≠ []->(∀ x∈l,(47:UInt8) ∉ x)->Lib.split (Lib.join l [47]) [47]=l
 | [],h,_=>absurd rfl h
 | [x],_,h=>by rw [Lib.join_one,OC (h x (by simp))]
 | x::y::r,_,h=>by
  have e:Lib.join (x::y::r) [47]=x++47::Lib.join (y::r) [47]:=by
   rw [Lib.join_cons,Lib.join_cons];simp [Lib.joinTail]
  rw [e,Uw (h x (by simp)),uX (by simp) λz hz=>h z (aH _ hz)]
def aar (l:List ByteArray):Prop:=∀ x∈l,dA x=0
theorem YF {p q:List ByteArray}:key p=key q↔p=q:=by
 refine ⟨λh=>JK ?_,λh=>by rw [h]⟩;have e:∀ l:List ByteArray,key l=l.map (·.data.toList):=λl=>by unfold key;exact gD λx _=>Lib.toList_data x
 rw [e,e] at h;exact h
theorem Ys {p:List ByteArray} (hp:aar p) (h:jm p= [47]):False:=by
 cases p with
 | nil=>simp [jm] at h
 | cons x r=>
  obtain ⟨_,h1,_⟩:=rT (hp x (by simp));rw [Nn] at h1;have e:jm (x::r)=47::(x.data.toList++jm r):=by simp [jm]
  rw [e] at h;have e2:x.data.toList++jm r= []:=by simpa using h
  have e3:x.data.toList= []:=(List.append_eq_nil_iff.1 e2).1;rw [e3] at h1;simp at h1
theorem YL {p q:List ByteArray} (hp:aar p) (hq:aar q):((jr p).toList==(jr q).toList)=RO p q:=by
 rw [Lib.toList_data,Lib.toList_data,xN,Bool.eq_iff_iff];simp only [beq_iff_eq,decide_eq_true_eq];rw [YF];refine ⟨λh=>?_,λh=>by rw [h]⟩;rw [oC,oC] at h;by_cases h1:p.length=0
 .rw [if_pos h1] at h;by_cases h2:q.length=0
  .rw [aJ h1,aJ h2]
  .rw [if_neg h2] at h;exact (Ys hq h.symm).elim
 .rw [if_neg h1] at h;by_cases h2:q.length=0
  .rw [if_pos h2] at h;exact (Ys hp h).elim
  .rw [if_neg h2,xH p h1,xH q h2] at h;have e:Lib.join (p.map (·.data.toList)) [47]=Lib.join (q.map (·.data.toList)) [47]:=by simpa using h
   have f:∀ l:List ByteArray,aar l->∀ x∈l.map (·.data.toList),(47:UInt8) ∉ x:=λl hl x hx=>by
    obtain ⟨y,hy,rfl⟩:=aP.1 hx;exact (rT (hl y hy)).2.2.2.2
   have s1:=uX (l:=p.map (·.data.toList)) (by simpa using h1) (f p hp);have s2:=uX (l:=q.map (·.data.toList)) (by simpa using h2) (f q hq);exact JK (by rw [<-s1,<-s2,e])
theorem VV {l:List ByteArray} (h:aar l) (hl:l.length<=30):(jr l).size<=7681:=by
 have:=YM (m:=255) λx hx=>(rT (h x hx)).1;have h2:l.length*(255+1)<=30*256:=Nat.mul_le_mul hl (ay _);omega
end Go.LmN

namespace Go.Lm
open Go
abbrev dh:Ty:=.pair .str (.pair (.int .i64) (.pair (.int .i64) .unit))
structure Oc (last:ByteArray) (x:dh.den):Prop where
 nm:dA x.1=0
 lt:uB last x.1=true
 k:1<=(x.2.1:Int)/\(x.2.1:Int)<=3
 r:0<=(x.2.2.1:Int)/\(x.2.2.1:Int)<=4294967295
def iG:ByteArray->List dh.den->Prop
 | _,[]=>True
 | last,x::r=>Oc last x/\iG x.1 r
def vK (x:dh.den):List UInt8:=(az x.1.size::x.1.data.toList)++(aI 1 (x.2.1:Int).toNat++aI 4 (x.2.2.1:Int).toNat)
def gN:List dh.den->List UInt8
 | []=>[]
 | x::r=>vK x++gN r
theorem Ox {z:ByteArray} (h:dA z=0):z.size<=255:=by
 unfold dA at h;split at h;cases h
 .rename_i hc;omega
theorem Da {last:ByteArray} {x:dh.den} (h:Oc last x):6<=(vK x).length/\(vK x).length<=261:=by
 have:=Ox h.nm;unfold vK;simp only [af,aq,aB,<-kz];omega
theorem Nl:∀ (l:List dh.den) (x:dh.den),gN (l++ [x])=gN l++vK x
 | [],x=>by show vK x++ []= []++vK x;rw [aW,dQ]
 | y::l,x=>by show vK y++gN (l++ [x])=vK y++gN l++vK x;rw [Nl l x,aG]
theorem xd:∀ {last:ByteArray} {l:List dh.den},iG last l->(gN l).length<=261*l.length
 | _,[],_=>ay _
 | _,x::r,⟨h1,h2⟩=>by
  have:=Da h1;have:=xd h2;show (vK x++gN r).length<=261*(r.length+1);rw [af];omega
theorem Xy {n:Nat} (h:n<=255):(az n).toNat=n:=UInt8.toNat_ofNat_of_lt' (by show n< 256;omega)
theorem alD {a b:ByteArray} (h:uB b a=true):(!(uB a b|| mJ a b))=true:=by
 rw [show (uB a b|| mJ a b)= !uB b a from Su a b,h];rfl
theorem Vt (n:ByteArray) (k r:Int) (u:Unit) (l:List dh.den):gN ((n,k,r,u)::l)=az n.size::(n.data.toList++(aI 1 k.toNat++(aI 4 r.toNat++gN l))):=by
 show vK (n,k,r,u)++gN l=_;unfold vK;simp only [aG,eO]
end Go.Lm

namespace Go.Proofs
open Go Go.Lm Go.RowKit
set_option maxRecDepth 1000000
def xG:List (Nat×Ty):=(44,dh)::gO
def ad7:Ct:=cS λs=>c0 λQ=>Q (.int (dA s)) []
def aaV:=aaW.add Km
abbrev yk (y0:SV->List HO->Prop):=y0 (.v (.c (.k (.int .i64 22)))) []
def KC (s:ByteArray):dE:=λQ=>j6 s (br (decide ((iO s)>(255:Int))) (Q (.v (.c (.k (.int .i64 23)))) []) (br (mJ s iz) (yk Q) (br (mJ s (ByteArray.mk #[(46:UInt8)])) (yk Q) (br (mJ s (ByteArray.mk #[(46:UInt8),(46:UInt8)])) 
 (yk Q) (bp (λi ag=>br (decide (i.2.1.2< ByteArray.size i.2.1.1)) (br ((↑(Utf8.decode i.2.1.1 i.2.1.2).1:Int)==0) (yk Q) (br ((↑(Utf8.decode i.2.1.1 i.2.1.2).1:Int)==47) (yk Q) (ag ((),(i.2.1.1,i.2.1.2+ 
 (Utf8.decode i.2.1.1 i.2.1.2).2),())))) (Q lZ [])) ((),(s,bD),()))))))
theorem QD:cG 153 ad7:=fz<| okS λs=>iQ λQ h=>by
 refine Wp.dJ aaV xG ⟨[(7,⟨[],[(0,.ab .iter)]⟩)],[]⟩ Tryz.f153 (KC s) ?_;unfold KC lZ iz iO yk j6 dr a6 bD;intro hs;unfold dA Zo at h;refine aw (λh1=>?_) (λh1=>?_);rw [if_pos (by simpa using h1)] at h;exact h
 .rw [if_neg (by simpa using h1)] at h;have bad:∀ c,(rZ s 0|| (mJ s ⟨#[]⟩|| (mJ s ⟨#[46]⟩|| mJ s ⟨#[46,46]⟩)))=c->Q (.int (if c=true then 22 else 0)) []:=λc e=>e▸h
  refine aw (λh2=>bad true (by rw [h2];simp)) (λh2=>aw (λh3=>bad true (by rw [h3];simp)) (λh3=>aw (λh4=>bad true (by rw [h4];simp)) (λh4=>?_)));rw [h2,h3,h4] at bad;have ok:∀ c,rZ s 0=c->Q (.int (if c=true then 22 else 0)) []:=λc e=>bad c (by rw [e];simp)
  refine bp.intro (λi=>i.2.1.1=s/\rZ s i.2.1.2=rZ s 0) (λi=>s.size - i.2.1.2) ⟨rfl,rfl⟩ ?_;rintro ⟨_,⟨z,p⟩,_⟩ ⟨rfl,hb⟩;simp only at hb ⊢;refine aw (λh5=>?_) (λh5=>?_)
  .have h5:p< z.size:=by simpa using h5
   have hr:rZ z p=((((Utf8.decode z p).1:Int)==0|| ((Utf8.decode z p).1:Int)==47)|| rZ z (p+(Utf8.decode z p).2)):=Go.LmN.VS z p h5;have hd:=Go.LmN.P4 z p h5;refine aw (λh6=>ok true (by rw [<-hb,hr,h6];rfl)) (λh6=>aw (λh7=>ok true (by rw [<-hb,hr,h6,h7];rfl)) (λh7=>⟨⟨trivial,?_⟩,?_⟩))
   .rw [h6,h7] at hr;rw [<-hb,hr];rfl
   .omega
  .have h5:¬p< z.size:=by simpa using h5
   exact ok false (by rw [<-hb];exact Go.LmN.aaj z p h5)
def Z1:Ct:=cN dh λx=>cS λlast=>c0 λQ=>Oc last x/\Q (.bool true) []
def aaU:=aaV.add QD
def Fo:((dh).den)->(ByteArray)->dE:=
 λx last Q=>j6 x.1 (cj x.2.1 x.2.2.1 (aL (dr last)->aF .i64 (dA x.1)->br (dA x.1==0) (br (!(uB x.1 last|| mJ x.1 last)) (br (decide (x.2.1≥1)) (br (decide (x.2.1<=3)) (br (decide (x.2.2.1≥0)) (Q (.v 
 (.c (.k (.bool (decide (x.2.2.1<=4294967295)))))) []) (bc Q)) (bc Q)) (bc Q)) (bc Q)) (bc Q)))
theorem WV:cG 178 Z1:=fz<| V8 λx=>okS λlast=>iQ λQ h=>by
 refine Wp.dJ aaU xG ⟨[],[]⟩ Tryz.f178 (Fo x last) ?_;unfold Fo j6 bc dr cj kQ aL;obtain ⟨⟨h1,h2,⟨k1,k2⟩,r1,r2⟩,h⟩:=h;rw [h1,alD h2,decide_eq_true r2];exact λ_ _ _ _ _=>aw (λ_=>aw (λ_=>aw (λ_=>aw (λ_=>aw (λ_=>h) (λhc=>absurd r1 (of_decide_eq_false hc))) (λhc=>absurd k2 (of_decide_eq_false hc))) (λhc=>absurd k1 (of_decide_eq_false hc))) (λhc=>by cases hc)) (λhc=>by cases hc)
def NX:Ct:=cD dh λl=>c0 λQ=>(iG ⟨#[]⟩ l/\l.length<=1024)/\Q (.cJ [.c (.d .u8 (gN l)),.c (.k (.int .i64 0))]) []
def aaT:=aaU.add WV
abbrev F8 (y0) (y1) (y2:SV->List HO->Prop):=y0=ah/\List.length y1<=100000000000/\(aL (bO y1)->aF .i64 0->y2 (SV.cJ [S1.c (Cl.d Ty.u8 y1),.c (.k a6)]) [])
abbrev gP (y0:List (dh).den) (y1):=aK dh y0 y1
def Fq (l:(List (dh).den)):dE:=λQ=>List.length l<=9223372036854775807->aL (List.length l)->bp (λi ag=>br (decide (i.1.1< (aE l))) (0<=i.1.1/\i.1.1< (aE l)/\(Ty.ok dh (gP l i.1.1)->Oc i.1.2.1 (gP l i.1.1)/\i.2.1.1=ah/\ 
 ByteArray.size (gP l i.1.1).1<=255/\List.length i.2.1.2.1<=1000000000/\pq ((ah<=(gP l i.1.1).2.1/\(gP l i.1.1).2.1< 256 ^ bJ)/\List.length (i.2.1.2.1++az (ByteArray.size (gP l i.1.1).1):: 
 (gP l i.1.1).1.data.toList)<=100000000000/\bt ((bd<=cC/\cC<=cC)/\(ah<=(gP l i.1.1).2.2.1/\(gP l i.1.1).2.2.1< 256 ^ cU)/\List.length (i.2.1.2.1++az (ByteArray.size (gP l i.1.1).1) 
 ::(gP l i.1.1).1.data.toList++aI bJ (ax (gP l i.1.1).2.1))<=100000000000/\cL i.1.1 (ag ((i.1.1+1,(gP l i.1.1).1,()),(ah,i.2.1.2.1++az (ByteArray.size (gP l i.1.1).1)::(gP l 
 i.1.1).1.data.toList++aI bJ (ax (gP l i.1.1).2.1)++aI cU (ax (gP l i.1.1).2.2.1),()),())))))) (F8 i.2.1.1 i.2.1.2.1 Q)) ((ah,ByteArray.mk #[],()),(ah,[],()),())
theorem Kw:cG 130 NX:=fz<| lH λl=>iQ λQ h=>by
 refine Wp.lq [some (.sl .u8),none] [] ?_;refine Wp.dJ aaT xG ⟨[(5,⟨[(10,.int .i64),(5,.str)],[(0,.cells 174 [.int .i64,.own 5 .u8])]⟩)],[]⟩ Tryz.f130 (Fq l) ?_;unfold Fq gP bt pq F8 cL bO a6 ah bd cC aE aL bJ cU;obtain ⟨⟨hl,hn⟩,h⟩:=h;refine λ_ _=>bp.intro (λi=>(0<=i.1.1/\i.1.1<=l.length)/\iG i.1.2.1 (l.drop i.1.1.toNat)/\i.2.1.1=0/\i.2.1.2.1=gN (l.take i.1.1.toNat)/\i.2.1.2.1.length<=261*i.1.1.toNat) (λi=>(l.length - i.1.1).toNat) ⟨⟨bz _,by show (0:Int)<=_;omega⟩,hl,rfl,rfl,ay _⟩ ?_;rintro ⟨⟨j,last,_⟩,⟨c,x,_⟩,_⟩ ⟨⟨j0,j1⟩,h1,h2,h3,h4⟩;simp only at j0 j1 h1 h2 h3 h4 ⊢;subst h2;refine aw (λhc=>?_) (λhc=>?_)
 .have hc:j< (l.length:Int):=of_decide_eq_true hc;have ht:=ixT (e:=dh) j0 hc;rw [ixR (e:=dh) j0 hc] at h1;obtain ⟨y,hy⟩:∃ y,aK dh l j=y:=⟨_,rfl⟩;rw [hy] at h1 ht ⊢;obtain ⟨he,h1⟩:=h1;have hle:=Da he;have hz:=Ox he.nm;have e:gN (l.take (j+1).toNat)=x++vK y:=by rw [ht,Nl,h3]
  obtain ⟨n,k,r,u⟩:=y;have hz:n.size<=255:=hz;obtain ⟨k0,k1⟩:=he.k;obtain ⟨r0,r1⟩:=he.r;have e2:x++az n.size::n.data.toList++aI 1 k.toNat++aI 4 r.toNat=gN (l.take (j+1).toNat):=by rw [e];unfold vK;simp only [aG]
  refine ⟨j0,hc,λ_=>⟨he,by trivial,hz,by omega,by trivial,⟨by decide,by decide⟩,⟨Int.le_trans (by decide) k0,Int.lt_of_le_of_lt k1 (by decide)⟩,?_,by trivial,⟨by decide,by decide⟩,⟨r0,Int.lt_of_le_of_lt r1 (by decide)⟩,?_,by unfold aF;omega,⟨⟨by omega,by omega⟩,h1,by trivial,e2,?_⟩,by omega⟩⟩;simp only [af,aq,<-kz];omega;simp only [af,aq,aB,<-kz];omega
  .show (x++az n.size::n.data.toList++aI 1 k.toNat++aI 4 r.toNat).length<=261*(j+1).toNat
   rw [e2,e,af];omega
 .have hc:¬j< (l.length:Int):=of_decide_eq_false hc;rw [aT (by omega)] at h3;subst h3;exact ⟨by trivial,by omega,λ_ _=>⟨ay _,h⟩⟩
def VL:Ct:=cD .u8 λb=>c0 λQ=>(∃ l,iG ⟨#[]⟩ l/\l.length<=1024/\b=gN l/\Q (.cJ [.c (.d dh l),.c (.k (.int .i64 0))]) [])
def aaS:=aaT.add Kw
abbrev Mj (y0) (y1):=(fD (List.take (cW y0) y1),bL (List.take bJ (List.drop (cW y0) y1)),bL (List.take cU (List.drop 1 (List.drop (cW y0) y1))),())
abbrev sy {A1:Type} (y0) (y1:List A1):=List.drop (cW y0) y1
def Bv (b:(List (Ty.u8).den)):dE:=λQ=>cM b (fa (dm b)/\bp (λi ag=>i.2.1.1=ah/\(aF .i64 (a7 i.2.1.2.1)->br (decide ((a7 i.2.1.2.1)>ah)) (bt (∃ z r,i.2.1.2.1=z::r/\cW z<=List.length r/\fa (bO i.2.1.2.1)/\ 
 (aL (ByteArray.size (fD (mP z r)))->bt (bd<=bd/\bd<=cC/\bd<=(a7 (sy z r))/\fa (List.length (sy z r))/\(aF .i64 (bL (List.take bJ (sy z r)))->bt (bd<=cC/\cC<=cC/\ 
 cC<=(a7 (List.drop 1 (sy z r)))/\fa (List.length (List.drop 1 (sy z r)))/\(aF .i64 (bL (List.take cU (List.drop 1 (sy z r))))->aF .i64 0->Oc i.1.2.1 (Mj z r)/\(List.length i.1.1+List.length [(Mj z 
 r)])*32<=140737488355328/\List.length i.1.1+List.length [(Mj z r)]<=9223372036854775807/\ag ((i.1.1++ [(Mj z r)],fD (mP z r),()),(ah,List.drop cU (List.drop 1 (sy z r)),()),())))))))) (Q nr [.sl 44 
 dh i.1.1]))) (([],ByteArray.mk #[],()),(ah,b,()),()))
theorem EH:cG 151 VL:=fz<| lH λb=>iQ λQ h=>by
 refine Wp.lq [some (.sl dh),none] [0] ?_;refine Wp.dJ aaS xG ⟨[(5,⟨[(5,.own 44 dh),(6,.str)],[(0,.cells 187 [.int .i64,.d .u8])]⟩)],[]⟩ Tryz.f151 (Bv b) ?_;unfold Bv bt sy mP dm nr Mj bO cM a6 ah bd cC a7 fa aL bJ cU;obtain ⟨l,hl,hn,rfl,h⟩:=h;have hbl:=xd hl;refine λ_=>⟨by omega,bp.intro (λi=>∃ j,j<=l.length/\i.1.1=l.take j/\iG i.1.2.1 (l.drop j)/\i.2.1.1=0/\i.2.1.2.1=gN (l.drop j)) (λi=>i.2.1.2.1.length) ⟨0,cq _,rfl,hl,rfl,rfl⟩ ?_⟩;rintro ⟨⟨o,last,_⟩,⟨c,x,_⟩,_⟩ ⟨j,j1,h1,h2,h3,h4⟩;simp only at j1 h1 h2 h3 h4 ⊢;subst h1 h3 h4;have hj:(l.take j).length=j:=by rw [aA];omega
 refine ⟨by trivial,λ_=>?_⟩;rcases dZ j l.length with eK| hge
 .rw [cg eK] at h2 ⊢;have Og:=xd h2;simp only [aq,aN] at Og;obtain ⟨y,hy⟩:∃ y,l[j]=y:=⟨_,rfl⟩;have ht:l.take j++ [y]=l.take (j+1):=by rw [bU eK,hy]
  rw [hy] at h2 Og ⊢;obtain ⟨he,h2⟩:=h2;have hle:=Da he;have hz:=Ox he.nm;obtain ⟨n,k,r,⟨⟩⟩:=y;obtain ⟨k0,k1⟩:=he.k;obtain ⟨r0,r1⟩:=he.r;have hu:=Xy hz;have hs:n.data.toList.length=n.size:=(kz n).symm;have e1:bL (aI 1 k.toNat)=k:=ef (Int.le_trans (by decide) k0) (Int.lt_of_le_of_lt k1 (by decide));have e4:bL (aI 4 r.toNat)=r:=ef r0 (Int.lt_of_le_of_lt r1 (by decide));rw [Vt] at Og ⊢;simp only [aq,af,aB] at Og;refine aw (λ_=>⟨by trivial,_,_,rfl,?_⟩) (λhc=>absurd (of_decide_eq_false hc) (by simp only [aq];omega));rw [hu,List.take_left' hs,List.drop_left' hs,iv,ix,iv,ix,e1,e4,zb];refine ⟨by simp only [af];omega,by simp only [aq,af,aB];omega,λ_=>⟨by trivial,by decide,by decide,by simp only [af,aB];omega,by simp only [af,aB];omega,λ_=>⟨by trivial,by decide,by decide,by simp only [af,aB];omega,by simp only [af,aB];omega,λ_ _=>⟨he,by rw [hj,aD];omega,by rw [hj,aD];omega,⟨j+1,eK,ht,h2,by trivial,by trivial⟩,?_⟩⟩⟩⟩;simp only [aq,af,aB];omega
 .rw [j4 hge,aT hge];exact aw (λhc=>by cases hc) (λ_=>⟨cq _,h⟩)
end Go.Proofs

namespace Go.Lm
open Go Go.RowKit Go.Maps Go.WideShapes
section
variable {W:cQ} {g w w':World} {l:List Atom} {et:TypeId} {size n:Nat} {v:Value} {xs:List Value}
theorem SL.fresh (H:SL W g w l) (e:Le w w') (ho:w'.ownsRow w.heap.size et size v n xs):SL W g w' (uh et size v n xs::l):=by
 obtain ⟨hl,⟨rfl,rfl⟩| ⟨k,cap,cur,rfl,hk,hb,r⟩⟩:=ho
 .have:xs= []:=aJ (by simpa using hl);subst this;exact (H.le e).XV et size
 .obtain ⟨h,be,s,ow,t⟩:=H;have hkn:h k=none:=by
   cases hx:h k with
   | none=>rfl
   | some x=>have:=uO (ow k x hx).2.1;omega
  have hni:tm g k:=λa ha=>by
   cases hc:g.cell? a with
   | none=>rfl
   | some x=>
    have h1:=World.block_lt_of_cell? w a (s.mono a x hc);omega
  refine ⟨Hp.join (λj=>if j=k then some (.cells cur et (0,0)) else none) h,e.Qp be,s.le e,λj x hx=>?_,_,h,λj=>?_,rfl,⟨hl,.inr ⟨k,cap,cur,rfl,if_pos rfl,r⟩⟩,t⟩
  .unfold Hp.join at hx;by_cases q:j=k
   .subst q;simp at hx;subst hx;exact ⟨Nat.le_trans be.size hk,hb,hni⟩
   .simp [q] at hx;obtain ⟨o1,o2,o3⟩:=ow j x hx;exact ⟨o1,e.jw o2,o3⟩
  .by_cases q:j=k
   .subst q;exact .inr hkn
   .left;simp [q]
end
section
variable {P:Program} {I:cQ->Prop} {f fk:FuncId} {Q:SV->List HO->Prop} {T:UTy} {q1 q2 nx:Int} {mb:Nat} {L:List (Int×rH)}
end
end Go.Lm

namespace Go.Proofs
open Go Go.RowKit Go.Maps Go.Sort Go.Shelf Go.Lm
set_option maxRecDepth 1000000
def Tryz.Gw:Go.Shelf.Ren:=⟨fun| 7=>74| 10=>126| n=>n,fun| 23=>151| 26=>3| 3=>4| 28=>154| 0=>0| 27=>153| 33=>170| 4=>4| n=>n,fun| n=>n⟩
theorem Tryz.akS:Go.Proofs.SlLaysZI.n7 cd Tryz.Gw:= {
 mixed:=by kernel_rfl
 f7:=⟨"maps.Keys[map[int]bool,int,bool]",by kernel_rfl,Tryz.func74.trans (congrArg some (by kernel_rfl))⟩
 f10:=⟨"maps.Keys[map[int]bool,int,bool]$1",by kernel_rfl,Tryz.func126.trans (congrArg some (by kernel_rfl))⟩
 t0:=Tryz.underlying0
 a0:=Tryz.isAgg0
 z0:=Tryz.sizeOf0
 v0:=Tryz.zeroValue0
 t4:=Tryz.underlying4
 a4:=Tryz.isAgg4
 z4:=Tryz.sizeOf4
 v4:=Tryz.zeroValue4
 t23:=Tryz.underlying151
 a23:=Tryz.isAgg151
 z23:=Tryz.sizeOf151
 v23:=Tryz.zeroValue151
 t26:=oT
 a26:=Tryz.isAgg3
 z26:=Tryz.sizeOf3
 v26:=Tryz.zeroValue3
 t27:=Tryz.underlying153
 a27:=Tryz.isAgg153
 z27:=Tryz.sizeOf153
 v27:=Tryz.zeroValue153
 t28:=Tryz.underlying154
 a28:=Tryz.isAgg154
 z28:=Tryz.sizeOf154
 v28:=Tryz.zeroValue154
 t33:=Tryz.underlying170
 a33:=Tryz.isAgg170
 z33:=Tryz.sizeOf170
 v33:=Tryz.zeroValue170}
def Tryz.BI:Go.Shelf.Ren:=⟨fun| 6=>73| 8=>124| 9=>125| 11=>171| n=>n,fun| 26=>3| 28=>154| 24=>29| 0=>0| 3=>4| 4=>4| 33=>170| n=>n,fun| n=>n⟩
theorem Tryz.ahu:Go.Proofs.SlLaysZI.n6 cd Tryz.BI:= {
 mixed:=by kernel_rfl
 f6:=⟨"slices.Sorted[int]",by kernel_rfl,Tryz.func73.trans (congrArg some (by kernel_rfl))⟩
 f8:=⟨"slices.Collect[int]",by kernel_rfl,Tryz.func124.trans (congrArg some (by kernel_rfl))⟩
 f11:=⟨"slices.AppendSeq[[]int,int]",by kernel_rfl,Tryz.func171.trans (congrArg some (by kernel_rfl))⟩
 t0:=Tryz.underlying0
 a0:=Tryz.isAgg0
 z0:=Tryz.sizeOf0
 v0:=Tryz.zeroValue0
 t24:=Tryz.underlying29
 a24:=Tryz.isAgg29
 z24:=Tryz.sizeOf29
 v24:=Tryz.zeroValue29
 t26:=oT
 a26:=Tryz.isAgg3
 z26:=Tryz.sizeOf3
 v26:=Tryz.zeroValue3
 t28:=Tryz.underlying154
 a28:=Tryz.isAgg154
 z28:=Tryz.sizeOf154
 v28:=Tryz.zeroValue154
 i26:=by kernel_rfl}
theorem acH (m:Nat):AnyZI.SortsIn cd Tryz.BI Fence.wide m:=
  ⟨λoP off cap ss W hH hblk kr=>callsIn_wide.2 (Tryz.slices_Sort_int oP off cap ss W hH hblk kr),
   λp cap W=>callsIn_wide.2 (Tryz.slices_Sort_int_none p cap W)⟩
theorem akR (w:World) (u ib:Nat) (D0:DataW Value) (hu:u< w.heap.size) (hc:w.cell? ⟨u,0,none⟩=some (.map (some ib))) (ho:w.ownsMap cd 3 eL ib (Maps.size D0) D0) (hs:Maps.size D0<=1099511627776):
  Calls cd 73 #[.func (.func 126) #[] #[.pointer (some ⟨u,0,none⟩)]] w λe w'=>∃ (v:Value) (ss:List Int),e= .returned v/\ss.Perm (intKeys D0)/\w'.ownsRow w.heap.size 3 1 v ss.length ((ss.mergeSort λx y=>decide (x<=y)).map encZ)/\Below w.heap.size w w':=by
 refine (callsIn_wide (n:=5)).1 ?_;have anq:SeqGives Fence.wide 2 cd 126 #[.pointer (some ⟨u,0,none⟩)] encZ (λss=>ss.Perm (intKeys D0)) (Maps.size D0) w:=
  AnyZI.keys_gives (ρ:=Tryz.Gw) {Tryz.akS with} Fence.wide _ trivial rfl (by omega) u ib _ D0 _ hu hc ho
 have cS:=AnyZI.sorted_in Tryz.ahu Fence.wide 5 trivial trivial trivial trivial rfl (by omega) (acH _) (enters_of Tryz.func125 (by kernel_rfl) rfl) 126 #[.pointer (some ⟨u,0,none⟩)] trivial (enters_of Tryz.func126 (by kernel_rfl) rfl) _ _ (by unfold maxLen;omega) (by omega) _ anq;exact cS.mono λe w' ⟨v,ss,h1,h2,h3,_,h4⟩=>⟨v,ss,h1,h2,h3,h4⟩
end Go.Proofs

namespace Go.Lm
open Go Go.RowKit Go.Maps Go.WideShapes
structure xw (xs ks:List Int):Prop where
 perm:xs.Perm ks
 V7:xs.Pairwise λa b=>a<=b
theorem LG {ks ss:List Int} (h:ss.Perm ks):xw (ss.mergeSort λx y=>decide (x<=y)) ks:=by
 refine ⟨(List.mergeSort_perm ss _).trans h,?_⟩;have h1:(ss.mergeSort λx y=>decide (x<=y)).Pairwise λx y=>decide (x<=y)=true:=List.pairwise_mergeSort (le:=λx y:Int=>decide (x<=y)) (λa b c h1 h2=>by
   simp only [decide_eq_true_eq] at h1 h2 ⊢;exact Int.le_trans h1 h2) (λa b=>by
   simp only [lp,decide_eq_true_eq];exact Int.le_total a b) ss
 exact h1.imp λh2=>by simpa using h2
theorem SG (g:World):∀ (l:List Int),(∀ s∈l,(Lit.int .i64 s).wf=true)->eC (α:=(Ty.int .i64).den) g (l.map λs=>[Value.int .i64 s]) l
 | [],_=>trivial
 | s::l,h=>⟨⟨rfl,h s (by simp)⟩,SG g l λx hx=>h x (by simp [hx])⟩
theorem CG {g:World} {k:Kk} {e:Ty}:∀ {l:List (k.den×Value)} {xs:List (k.den×e.den)},rG g k e l xs->xs.map (·.1)=l.map (·.1)
 | [],_,h=>by rw [show _= [] from h];rfl
 | p::l,_,⟨x,r,h1,_,h3⟩=>by rw [h1,bX,bX,CG h3]
section
variable {P:Program} {I:cQ->Prop} {f fk:FuncId} {Q:SV->List HO->Prop}
theorem Wp.OD {tK tM:TypeId} {e:Ty} {xs:List (Int×e.den)} (hkT:P.underlying tK=some (.int .i64))
  (hC:∀ (w:World) (u ib:Nat) (D0:DataW Value),u< w.heap.size->w.cell? ⟨u,0,none⟩=some (.map (some ib))->w.ownsMap P tK eL ib (Maps.size D0) D0->Maps.size D0<=1099511627776->
   Calls P f #[.func (.func fk) #[] #[.pointer (some ⟨u,0,none⟩)]] w λe w'=>∃ (v:Value) (ss:List Int),e= .returned v/\ss.Perm (intKeys D0)/\w'.ownsRow w.heap.size tK 1 v ss.length ((ss.mergeSort λx y=>decide (x<=y)).map encZ)/\Below w.heap.size w w')
  (hen:xs.length<=1099511627776)
  (hq:∀ ys,xw ys (xs.map (·.1))->Q (.c (.o 2)) [.cells tM [.m 1],.map tK .int e xs,.sl tK (.int .i64) ys]):
  Wp I P f [.v (.c (.fn fk [.p 0 0]))] [.cells tM [.m 1],.map tK .int e xs] Q:=by
 intro W hW g w E F vs S DR;obtain ⟨a,rfl,us,⟨_,tu,rfl,hu,Vl⟩,rfl⟩:=tD DR;obtain ⟨h0,be,se,ow,k1,k2,ap,rfl,⟨b,us,hE,hrel,hb⟩,k3,k4,ap2,rfl,⟨mb,m,hE1,hms,P',hkk,Ef⟩,s3⟩:=S.sl;have Ef:(mapA P tK mb m).sat g k3:=Ja (k:=.int) hkk (by unfold jT;rw [hkT]) Ef;obtain ⟨es,clock,e2,rep⟩:=Ef;obtain ⟨_,us2,rfl,⟨Oe,hE2,rfl⟩,Wb⟩:=hrel;obtain rfl:us2= []:=Wb;obtain rfl:tu= []:=Vl;have hmm:Oe=mb:=by rw [hE1] at hE2;simpa [ptr] using hE2.symm
 subst hmm;obtain ⟨b',hE',rfl⟩:=hu;rw [hE] at hE';obtain rfl:b=b':=by simpa [ptr] using hE'
 have hbb:w.heap[b]?=some (.cells #[.map (some Oe)] tM (0,0)):=by
  have a1:=Hp.eP.1 ap;exact (ow b _ (Hp.fJ hb)).2.1
 have hmb:w.heap[Oe]?=some (.map es clock):=by
  refine (ow Oe _ ?_).2.1;rw [Hp.mj ?_];exact Hp.fJ e2
  .rcases (Hp.eP.1 ap).1 Oe with q| q
   .exact q
   .rw [e2] at q;cases q
 have hxm:xs.map (·.1)=m.map (·.1):=CG (k:=.int) hms;have zU:∀ z∈m.map (·.1),(Lit.int .i64 z).wf=true:=λz hz=>by
  obtain ⟨p,hp,rfl⟩:=aP.1 hz;have h1:kC p∈es.toList.map (Go.WideElems.rg P tK eL):=rep.perm.mem_iff.2 (aP.2 ⟨p,hp,rfl⟩);obtain ⟨x,hx,hxe⟩:=aP.1 h1;obtain ⟨kl,SN,wW⟩:=mM rep.fit hx;rw [wW] at hxe;have:kl=dF.lit p.1:=congrArg Prod.fst hxe;subst this;exact ((wR hkT).inv _ _ SN).2
 have kr:es.size=m.length:=rep.size;have hlm:m.length=xs.length:=by have:=congrArg List.length hxm;simpa using this.symm
 have hD:Maps.size (H:=Value) (.map ((es.toList.map (Go.WideElems.rg P tK eL)).foldr DataW.insert []))=m.length:=by
  show ((es.toList.map (Go.WideElems.rg P tK eL)).foldr DataW.insert []).length=_;rw [(sorted_perm _).length_eq,bH];simpa using kr
 have M6:w.cell? ⟨b,0,none⟩=some (.map (some Oe)):=by
  simp [World.cell?,hbb]
 refine (hC w b Oe _ (uO hbb) M6 ⟨es,clock,hmb,rep.fit,?_,rfl⟩ ?_).mono λe w' ⟨v',ss,he,hp,rO,aoo⟩=>?_;rw [hD];omega;rw [hD];omega;have hp2:ss.Perm (xs.map (·.1)):=by
  refine hp.trans ?_;have h1:=((sorted_perm (H:=Value) (es.toList.map (Go.WideElems.rg P tK eL))).trans rep.perm).map λp=>Go.intOf p.1;refine h1.trans (List.Perm.of_eq ?_);rw [List.map_map,hxm];rfl
 have afc:=LG hp2;have hlen:(ss.mergeSort λx y=>decide (x<=y)).length=ss.length:=(List.mergeSort_perm ss _).length_eq;refine ⟨v',he,E++ [v'],g,.c (.o 2),_,bw.app _ _,bx.refl g,Sat.push (o:=.sl tK (.int .i64) (ss.mergeSort λx y=>decide (x<=y))) S.len ?_,?_,hq _ afc⟩
 .refine (S.sl.fresh aoo rO).cz λhh ⟨p1,p2,ap3,q3,sr,sF⟩=>⟨p1,p2,ap3,q3,⟨v',by rw [<-S.len];simp,(ss.mergeSort λx y=>decide (x<=y)).map (λs=>[Value.int .i64 s]),?_,?_⟩,sF⟩
  .exact SG g _ λs hs=>zU s (by rw [<-hxm];exact afc.perm.mem_iff.1 hs)
  .show (uh tK 1 v' (ss.mergeSort λx y=>decide (x<=y)).length _).sat g p1;rw [hlen];have e3:((ss.mergeSort λx y=>decide (x<=y)).map (λs=>[Value.int .i64 s])).flatten=(ss.mergeSort λx y=>decide (x<=y)).map encZ:=by
    induction (ss.mergeSort λx y=>decide (x<=y)) with
    | nil=>rfl
    | cons x l ih=>rw [bX,bI,ih];rfl
   rw [e3];exact sr
 .refine ⟨by rw [show (2:Nat)=E.length from S.len.symm];simp,?_⟩;rcases rO.2 with ⟨rfl,_⟩| ⟨k,cap,cur,rfl,_⟩
  .exact ⟨_,_,_,rfl⟩
  .exact ⟨_,_,_,rfl⟩
end
end Go.Lm

namespace Go.Lm
open Go
def uS (n:noTy.den):Int:=n.2.2.2.1.2.1
def yN (n:noTy.den):Int:=n.2.2.2.1.2.2.1
structure Ob (l:List noTy.den) (ys:List Int):Prop where
 V7:ys.Pairwise (· < ·)
 mem:∀ y,y∈ys↔∃ n∈l,y=uS n\/y=yN n
 len:ys.length<=2*l.length
structure V5 (l:List noTy.den) (M:List (Int×Bool)):Prop where
 nd:(M.map (·.1)).Nodup
 mem:∀ y,y∈M.map (·.1)↔∃ n∈l,y=uS n\/y=yN n
 len:M.length<=2*l.length
def gv (n:Nat) (l:List Int):List UInt8:=l.flatMap λx=>aI n x.toNat
theorem jR (n:Nat):∀ l:List Int,(gv n l).length=n*l.length
 | []=>by simp [gv]
 | x::l=>by
  have:=jR n l;unfold gv at*;rw [j9,af,aB,this,aq,Nat.mul_succ];omega
theorem UZ (n:Nat) (l:List Int) (x:Int):gv n (l++ [x])=gv n l++aI n x.toNat:=by
 unfold gv;rw [List.flatMap_append];simp
theorem Cy (M:List (Int×Bool)) (k:Int) (v:Bool):(Kk.put .int M k v:List (Int×Bool)).map (·.1)=k::(M.map (·.1)).filter (λx=> !decide (x=k)):=by
 show k::(List.map (·.1) (List.filter (λp:Int×Bool=> !decide (p.1=k)) M))=_;congr 1;rw [List.filter_map];rfl
theorem X8 {M:List (Int×Bool)} (h:(M.map (·.1)).Nodup) (k:Int) (v:Bool):((Kk.put .int M k v:List (Int×Bool)).map (·.1)).Nodup:=by
 rw [Cy];exact eB.2 ⟨by simp,h.filter _⟩
theorem R8 (M:List (Int×Bool)) (k:Int) (v:Bool) (y:Int):y∈(Kk.put .int M k v:List (Int×Bool)).map (·.1)↔y=k\/y∈M.map (·.1):=by
 rw [Cy,bm,fO];by_cases e:y=k;simp [e];simp [e]
theorem Cx (M:List (Int×Bool)) (k:Int) (v:Bool):(Kk.put .int M k v:List (Int×Bool)).length<=M.length+1:=by
 have:=congrArg List.length (Cy M k v);rw [bH,aq] at this;rw [this];have:=List.length_filter_le (λx=> !decide (x=k)) (M.map (·.1));rw [bH] at this;omega
theorem V5.step {l:List noTy.den} {M:List (Int×Bool)} (h:V5 l M) (n:noTy.den):V5 (l++ [n]) (Kk.put .int (Kk.put .int M (uS n) true:List (Int×Bool)) (yN n) true):=by
 refine ⟨X8 (X8 h.nd _ _) _ _,λy=>?_,?_⟩
 .rw [R8,R8,h.mem];constructor
  .rintro (e| e| ⟨m,hm,e⟩)
   .exact ⟨n,by simp,.inr e⟩
   .exact ⟨n,by simp,.inl e⟩
   .exact ⟨m,by simp [hm],e⟩
  .rintro ⟨m,hm,e⟩;rcases aY.1 hm with hm| hm
   .exact .inr (.inr ⟨m,hm,e⟩)
   .obtain rfl:m=n:=by simpa using hm
    rcases e with e| e;exact .inr (.inl e);exact .inl e
 .have h1:=Cx (Kk.put .int M (uS n) true:List (Int×Bool)) (yN n) true;have h2:=Cx M (uS n) true;have h3:=h.len;rw [af,aD];omega
theorem V5.ids {l:List noTy.den} {M:List (Int×Bool)} (h:V5 l M) {ys:List Int} (hs:xw ys (M.map (·.1))):Ob l ys:=by
 refine ⟨?_,λy=>by rw [hs.perm.mem_iff];exact h.mem y,by rw [hs.perm.length_eq,bH];exact h.len⟩;have hn:ys.Nodup:=hs.perm.nodup_iff.2 h.nd;refine List.Pairwise.imp₂ (λa b h1 h2=>?_) hs.V7 hn;have h1:a<=b:=h1;have h2:a≠b:=h2;omega
theorem am3 (fs:List (List UInt8)):(0:Int)=(dU fs 0:Nat):=by unfold dU;simp
theorem Pm (n:Nat) {l:List Int} {j:Nat} (h:j< l.length):((gv n l).drop (n*j)).take n=aI n (l[j]).toNat:=by
 have e:l=l.take j++l[j]::l.drop (j+1):=by rw [<-cg h,cv]
 have e2:gv n l=gv n (l.take j)++(aI n (l[j]).toNat++gv n (l.drop (j+1))):=by
  conv=>lhs;rw [e]
  unfold gv;rw [List.flatMap_append,j9]
 rw [e2,List.drop_left' (by rw [jR,aA,dK (Nat.le_of_lt h)]),List.take_left' (aB _ _)]
theorem aeW {n:Int} (h:n=2\/n=4):(1<=n/\n<=4)/\(1<=n.toNat/\n.toNat<=4):=by omega
end Go.Lm

namespace Go.Proofs
open Go Go.Lm Go.RowKit
set_option maxRecDepth 1000000
def Tq:Ct
 | [.v (.c (.m 0))],[.map 3 .int .bool M],Q=>Q (.c (.fn 126 [.p 1 0])) [.map 3 .int .bool M,.cells 151 [.m 0]]
 | _,_,_=>False
def aaR:=aaS.add EH
def K5 (M:(List (Int×Bool))):dE:=λQ=>Q (SV.v (S1.c (Cl.fn (126:Nat) [.p 1 0]))) [HO.map (3:TypeId) Kk.int Ty.bool M,.cells 151 [Cl.m bD]]
theorem acn:cG 74 Tq:=by
 intro args H Q h;unfold Tq at h;split at h;rotate_left;cases h;rename_i M;refine Wp.dJ aaR xG ⟨[],[]⟩ Tryz.f74 (K5 M) ?_;unfold K5 bD;exact h
def Tg:Ct
 | [.v (.c (.fn 126 [.p 0 0]))],[.cells 151 [.m 1],.map 3 .int .bool M],Q=>M.length<=1099511627776/\∀ ys,xw ys (M.map (·.1))->Q (.c (.o 2)) [.cells 151 [.m 1],.map 3 .int .bool M,.sl 3 (.int .i64) ys]
 | _,_,_=>False
theorem ab1:cG 73 Tg:=by
 intro args H Q h;unfold Tg at h;split at h;exact Wp.OD (tM:=151) oT akR h.1 h.2;cases h
def xF:List (Nat×Ty):=(38,noTy)::xG
def alU:Ct:=cD noTy λl=>c0 λQ=>l.length<=1100/\∀ ys,Ob l ys->Q (.c (.d (.int .i64) ys)) []
def aaQ:=(aaR.add acn).add ab1
abbrev gr (y0:List (noTy).den) (R:Prop):=List.length y0<=9223372036854775807->R
abbrev dy (y0:List (noTy).den) (y1):=aK noTy y0 y1
abbrev jj (y0) (y1:List (noTy).den) (R:Prop):=0<=y0/\y0< (aE y1)/\R
abbrev ji (y0) (y1:List (noTy).den):=decide (y0< (aE y1))
def Xf (l:(List (noTy).den)):dE:=λQ=>gr l (aL (List.length l)->bp (λi ag=>br (ji i.1.1 l) (jj i.1.1 l (Ty.ok noTy (dy l i.1.1)->l8 i.2.1 (List.length (Kk.put Kk.int i.2.1 (dy l i.1.1).2.2.2.1.2.1 true)< 9223372036854775807/\cL 
 i.1.1 (ag ((i.1.1+1,()),Kk.put Kk.int (Kk.put Kk.int i.2.1 (dy l i.1.1).2.2.2.1.2.1 true) (dy l i.1.1).2.2.2.1.2.2.1 true,()))))) (List.length i.2.1<=1099511627776/\∀ (ys:List Int),xw ys (List.map (λx=>x.1) 
 i.2.1)->Q gA [.sl 3 bF ys])) ((ah,()),[],()))
theorem aeK:cG 48 alU:=fz<| lH λl=>iQ λQ h=>by
 refine Wp.lq [some (.sl (.int .i64))] [0] ?_;refine Wp.dJ aaQ xF ⟨[(4,⟨[(9,.int .i64)],[(0,.map 3 .int .bool)]⟩)],[]⟩ Tryz.f48 (Xf l) ?_;unfold Xf ji jj gA dy l8 cL gr ah aE aL bF;obtain ⟨hl,h⟩:=h;refine λ_ _=>bp.intro (λi=>(0<=i.1.1/\i.1.1<=l.length)/\V5 (l.take i.1.1.toNat) i.2.1) (λi=>(l.length - i.1.1).toNat) ⟨⟨bz _,by show (0:Int)<=_;omega⟩,⟨List.nodup_nil,λy=>by simp,cq _⟩⟩ ?_;rintro ⟨⟨j,_⟩,M,_⟩ ⟨⟨j0,j1⟩,h1⟩;simp only at j0 j1 h1 ⊢;have hm:=h1.len;rw [aA] at hm;refine aw (λhc=>?_) (λhc=>?_)
 .have hc:j< (l.length:Int):=of_decide_eq_true hc;have hs:=h1.step (aK noTy l j);rw [<-ixT (e:=noTy) j0 hc] at hs;have hp:=Cx M (uS (aK noTy l j)) true;exact ⟨j0,hc,λ_=>⟨by omega,Nat.lt_of_le_of_lt hp (by omega),by unfold aF;omega,⟨⟨by omega,by omega⟩,hs⟩,by omega⟩⟩
 .have hc:¬j< (l.length:Int):=of_decide_eq_false hc;rw [aT (by omega)] at h1;exact ⟨by omega,λys hy=>⟨cq _,h ys (h1.ids hy)⟩⟩
def ai0:Ct:=cI λn=>c0 λQ=>(n=2\/n=4)/\Q (.bool true) []
def aaP:=aaQ.add aeK
def Rq (n:Int):dE:=λQ=>aF .i64 n->br (n==2) (Q qK []) (Q (.v (.c (.k (.bool (n==4))))) [])
theorem ag8:cG 85 ai0:=fz<| nG λn=>iQ λQ h=>by
 refine Wp.dJ aaP xF ⟨[],[]⟩ Tryz.f85 (Rq n) ?_;unfold Rq qK;obtain ⟨hn,h⟩:=h;refine λ_=>aw (λ_=>h) (λhc=>?_);have:n=4:=by rcases hn with e| e;rw [e] at hc;cases hc;exact e
 rw [this];exact h
def VD:Ct:=cD (Ty.int .i64) λl=>cI λn=>c0 λQ=>(n=2\/n=4)/\(∀ x∈l,0<=x/\x< 256 ^ n.toNat)/\l.length<=100000/\Q (.cJ [.c (.d .u8 (gv n.toNat l)),.c (.k (.int .i64 0))]) []
def aaO:=aaP.add ag8
def Bg (l:(List ((Ty.int .i64)).den)) (n:Int):dE:=λQ=>hU l (aF .i64 n->(n=di\/n=cC)/\(aL (List.length l)->bp (λi ag=>br (decide (i.1.1< (aE l))) (0<=i.1.1/\i.1.1< (aE l)/\(Ty.ok bF (aK bF l i.1.1)->i.2.1.1=ah/\(1<=n/\n<=4)/\(0 
 <=aK bF l i.1.1/\aK bF l i.1.1< 256 ^ ax n)/\List.length i.2.1.2.1<=100000000000/\cL i.1.1 (ag ((i.1.1+1,()),(ah,i.2.1.2.1++aI (aZ n) (ax (aK bF l i.1.1)),()),())))) (F8 i.2.1.1 i.2.1.2.1 
 Q)) ((ah,()),(ah,[],()),())))
theorem Ew:cG 53 VD:=fz<| lH λl=>nG λn=>iQ λQ h=>by
 refine Wp.lq [some (.sl .u8),none] [] ?_;refine Wp.dJ aaO xF ⟨[(6,⟨[(14,.int .i64)],[(0,.cells 174 [.int .i64,.own 5 .u8])]⟩)],[]⟩ Tryz.f53 (Bg l n) ?_;unfold Bg hU F8 cL bO aZ a6 ah di cC aE aL bF;obtain ⟨hn,hx,hl,h⟩:=h;obtain ⟨h14,n1,n4⟩:=aeW hn;refine λ_ _=>⟨hn,λ_=>bp.intro (λi=>(0<=i.1.1/\i.1.1<=l.length)/\i.2.1.1=0/\i.2.1.2.1=gv n.toNat (l.take i.1.1.toNat)) (λi=>(l.length - i.1.1).toNat) ⟨⟨bz _,by show (0:Int)<=_;omega⟩,rfl,rfl⟩ ?_⟩;rintro ⟨⟨j,_⟩,⟨c,x,_⟩,_⟩ ⟨⟨j0,j1⟩,h1,h2⟩;simp only at j0 j1 h1 h2 ⊢;subst h1;have hxl:x.length<=4*l.length:=by
  rw [h2,jR,aA];exact Nat.mul_le_mul n4 (Nat.min_le_right _ _)
 refine aw (λhc=>?_) (λhc=>?_)
 .have hc:j< (l.length:Int):=of_decide_eq_true hc;have hm:=hx _ (uF (e:=.int .i64) j0 hc);exact ⟨j0,hc,λ_=>⟨by trivial,h14,hm,by omega,by unfold aF;omega,⟨⟨by omega,by omega⟩,by trivial,by rw [ixT (e:=.int .i64) j0 hc,UZ,h2]⟩,by omega⟩⟩
 .have hc:¬j< (l.length:Int):=of_decide_eq_false hc;rw [aT (by omega)] at h2;subst h2;exact ⟨by trivial,by omega,λ_ _=>⟨ay _,h⟩⟩
def Qg:Ct:=cP<| cI λm=>cI λn=>cO λH Q=>match H with
 | [.abs A]=>∃ fs R,RB A fs R/\(n=2\/n=4)/\∃ l:List Int,(∀ x∈l,0<=x/\x< 256 ^ n.toNat)/\R=gv n.toNat l/\m=l.length/\l.length<=100000/\∀ A',RB A' fs R->Q (.cJ [.c (.d (.int .i64) l),.c (.k (.int .i64 0))]) [.abs A']
 | _=>False
def aaN:=aaO.add Ew
abbrev X2 (y0:Int) (y1:SV->List HO->Prop) (y2) (y3) (y4):=br (y0 !=0) (y1 (.cJ [.c dL,.c (.k (.int .i64 2))]) [HO.abs y2]) (∃ fs R,RB y2 fs R/\∃ o,o<=List.length R/\y3=(↑(dU fs o):Int)/\(ah<=bd/\bd<=(10000000:Int))/\∀ (A':Value->Atom) (z:List UInt8) (nx e:Int),RB A' fs R->pc fs R o bJ z nx e->aL (List.length z)->aF .i64 nx->aF .i64 e->br (e==0) (y1 (.cJ [.c dL,.c (.k (.int .i64 2))]) [HO.abs A']) (y1 (SV.cJ [S1.c (.o 1),.c (.k a6)]) [HO.abs A',.sl 3 bF y4]))
def zu (m n:Int) (A:Value->Atom):dE:=λQ=>cj m n (br (cR m) (Q kj [HO.abs A]) ((n=di\/n=cC)/\∃ fs R,RB A fs R/\∃ o,o<=List.length R/\ah=(↑(dU fs o):Int)/\(ah<=ah/\ah<=(10000000:Int))/\∀ (A':Value->Atom) (z: 
 List UInt8) (nx e:Int),RB A' fs R->pc fs R o bD z nx e->cY z (cj nx e (bp (λi ag=>gu i.1.1 (br (decide ((a7 i.1.1)< m)) (br (i.1.2.2.1==0) (∃ fs R,RB i.2.1 fs R/\∃ o,vp o R i.1.2.1 fs n (∀ (A': 
 Value->Atom) (z:List UInt8) (nx e:Int),RB A' fs R->pc fs R o (aZ n) z nx e->cY z (cj nx e (br (e==0) (fa (List.length z)/\bt (1<=n/\n<=4/\n<=(aE z)/\fa (List.length z)/\(aF .i64 (bL (l9 n z)) 
 ->(List.length i.1.1+List.length [bL (l9 n z)])*8<=cw/\List.length i.1.1+List.length [bL (l9 n z)]<=9223372036854775807/\ag ((i.1.1++ [bL (l9 n z)],nx,e,()),A',())))) (ag ((i.1.1,nx,e,()),A', 
 ())))))) (X2 i.1.2.2.1 Q i.2.1 i.1.2.1 i.1.1)) (X2 i.1.2.2.1 Q i.2.1 i.1.2.1 i.1.1))) (([],nx,e,()),A',())))))
theorem AY:cG 104 Qg:=fz<| rJ<| nG λm=>nG λn=>rK λH Q h=>by
 split at h;rotate_left;cases h;rename_i A;refine Wp.lq [some (.sl (.int .i64)),none] [1] ?_;refine Wp.dJ aaN xF ⟨[(6,⟨[(11,.own 3 (.int .i64)),(9,.int .i64),(10,.int .i64)],[(0,.abs)]⟩)],[]⟩ Tryz.f104 (zu m n A) ?_;unfold zu bt vp l9 cY cj cR gu X2 kj cw dL aZ a6 ah bd di cC a7 aE fa aL bD bJ bF;obtain ⟨fs,R,hR,hn,l,hx,rfl,rfl,hl,h⟩:=h;obtain ⟨h14,n1,n4⟩:=aeW hn;have hBl:=jR n.toNat l;refine λ_ _=>aw (λhc=>absurd (of_decide_eq_true hc) (by omega)) (λ_=>⟨hn,fs,_,hR,0,cq _,am3 fs,⟨by decide,by decide⟩,λA' z nx e hR hz _ _ _=>?_⟩);obtain ⟨rfl,rfl,rfl⟩:=hz.ok (cq _);refine bp.intro (λi=>∃ j,j<=l.length/\i.1.1=l.take j/\i.1.2.1=(dU fs (n.toNat*j):Nat)/\i.1.2.2.1=0/\RB i.2.1 fs (gv n.toNat l)) (λi=>l.length - i.1.1.length) ⟨0,cq _,rfl,by rw [Nat.mul_zero],rfl,hR⟩ ?_;rintro ⟨⟨o,at',e,_⟩,A',_⟩ ⟨j,hj,h1,h2,h3,hR⟩;simp only at hj h1 h2 h3 hR ⊢;subst h1 h2 h3;have Oh:(l.take j).length=j:=by rw [aA];omega
 have hnj:n.toNat*j<=n.toNat*l.length:=Nat.mul_le_mul_left _ hj;rw [Oh];refine λ_=>aw (λhc=>aw (λ_=>?_) (λq=>by cases q)) (λhc=>aw (λq=>by cases q) (λ_=>?_))
 .have hc:(j:Int)< l.length:=of_decide_eq_true hc;have M7:j< l.length:=by omega
  have hj1:n.toNat*j+n.toNat<=(gv n.toNat l).length:=by
   rw [hBl];have:=Nat.mul_le_mul_left n.toNat (show j+1<=l.length by omega);rw [Nat.mul_succ] at this;exact this
  refine ⟨fs,_,hR,_,by rw [hBl];exact hnj,rfl,⟨by omega,by omega⟩,λA' z nx e hR hz _ _ _=>?_⟩;obtain ⟨rfl,rfl,rfl⟩:=hz.ok hj1;have hb:=hx _ (dw M7);rw [Pm n.toNat M7];have Og:=aB n.toNat (l[j]).toNat
  rw [aT (Nat.le_of_eq Og),ef hb.1 hb.2];have e2:l.take j++ [l[j]]=l.take (j+1):=(bU M7).symm;exact aw (λ_=>⟨by omega,by trivial,h14.1,h14.2,by omega,by omega,λ_=>⟨by simp only [aD];omega,by simp only [aD];omega,⟨j+1,M7,e2,by rw [Nat.mul_succ],by trivial,hR⟩,by rw [af,Oh,aD];omega⟩⟩) (λq=>by cases q)
 .have hc:¬(j:Int)< l.length:=of_decide_eq_false hc;obtain rfl:j=l.length:=by omega
  refine ⟨fs,_,hR,_,by rw [hBl];exact ay _,rfl,⟨by decide,by decide⟩,λA' z nx e hR hz _ _ _=>?_⟩;rcases hz.or with ⟨q,_⟩| ⟨_,rfl,rfl,rfl⟩;rw [hBl] at q;omega
  .rw [eN];exact aw (λq=>by cases q) (λ_=>⟨by show 1<=2;decide,h A' hR⟩)
end Go.Proofs

namespace Go.Lm
open Go
def wg (t:List UInt8):List UInt8:=az t.length::t
def gj (l:List (List UInt8)):List UInt8:=l.flatMap wg
def xaL (x:xt):List (List UInt8):=[x.1.data.toList,x.2.1]
def pf (l:List xt):List (List UInt8):=l.flatMap xaL
def xsB (l:List xt):List UInt8:=aI 1 l.length++gj (pf l)
structure amh (l:List xt) (z:List UInt8) (e:Int):Prop where
 or:(l= []/\z= []/\e=1)\/(l≠ []/\z=xsB l/\e=0)
theorem uU (l m:List (List UInt8)):gj (l++m)=gj l++gj m:=by unfold gj;exact List.flatMap_append
theorem zB (t:List UInt8) (l:List (List UInt8)):gj (t::l)=wg t++gj l:=rfl
theorem uT:∀ {l:List (List UInt8)},(∀ t∈l,t.length<=255)->(gj l).length<=256*l.length
 | [],_=>ay _
 | t::l,h=>by
  have h1:=h t aX;have h2:=uT (l:=l) λx hx=>h x (aH _ hx);rw [zB,af];unfold wg;simp only [aq];omega
theorem J5 (l m:List xt):pf (l++m)=pf l++pf m:=by unfold pf;exact List.flatMap_append
theorem n5:∀ l:List xt,(pf l).length=2*l.length
 | []=>rfl
 | x::l=>by
  have:=n5 l;show (xaL x++pf l).length=_;rw [af,this,aq];show 2+_=_;omega
theorem aah {x:xt} {last:ByteArray} (h:DB x last=false):1<=x.1.size/\x.1.size<=40/\x.2.1.length<=200:=by
 unfold DB qM iM at h;simp only [Bool.or_eq_false_iff,Bool.not_eq_false',ao,decide_eq_true_eq,decide_eq_false_iff_not] at h;omega
theorem vU:∀ {l:List xt} {last:ByteArray},iW l last=true->∀ x∈l,1<=x.1.size/\x.1.size<=40/\x.2.1.length<=200
 | y::l,last,h,x,hx=>by
  unfold iW at h;split at h;cases h
  .rename_i hb;rcases bm.1 hx with rfl| hx
   .exact aah (by simpa using hb)
   .exact vU h x hx
theorem oV {l:List xt} (h:eI l=true):(∀ x∈l,1<=x.1.size/\x.1.size<=40/\x.2.1.length<=200)/\l.length<=8:=by
 unfold eI at h;simp only [ao,decide_eq_true_eq] at h;exact ⟨vU h.1,by omega⟩
theorem Hx {l:List xt} (h:∀ x∈l,1<=x.1.size/\x.1.size<=40/\x.2.1.length<=200):∀ t∈pf l,t.length<=255:=λt ht=>by
 unfold pf at ht;obtain ⟨x,hx,hm⟩:=List.mem_flatMap.1 ht;have:=h x hx;unfold xaL at hm;simp only [bm,List.not_mem_nil,or_false] at hm;rcases hm with rfl| rfl;rw [<-kz];omega;omega
theorem aex (l:List UInt8):(fD l).size=l.length:=by simp [fD,ByteArray.size]
theorem tb (l:List UInt8):(fD l).data.toList=l:=by simp [fD]
theorem On (x:xt):gj (xaL x)=az x.1.size::x.1.data.toList++az x.2.1.length::x.2.1:=by
 show wg x.1.data.toList++(wg x.2.1++ [])=_;unfold wg;rw [aW,<-kz]
theorem Er:∀ {l:List xt} {k:Nat} (h:k< l.length),((pf l).drop (k*2)).take 2= [(l[k]).1.data.toList,(l[k]).2.1]
 | x::l,0,_=>rfl
 | x::l,k+1,h=>by
  have:=Er (l:=l) (k:=k) (by simpa using h);rw [show (k+1)*2=2+k*2 by omega,<-eG];exact this
end Go.Lm

namespace Go.Proofs
open Go Go.Lm Go.RowKit
set_option maxRecDepth 1000000
theorem adk {a b:ByteArray} (h:Go.Lm.leB a b=false):1<=(a.size:Int):=by
 rw [Su] at h;have h1:uB b a=true:=by simpa using h
 unfold uB at h1;rw [kz];rw [Lib.toList_data,Lib.toList_data] at h1;cases hq:a.data.toList with
 | nil=>rw [hq] at h1;cases hb:b.data.toList<;>rw [hb] at h1<;>cases h1
 | cons c l=>simp only [aq];omega
theorem Hl (x:xt) (last:ByteArray):DB x last=(Go.Lm.leB x.1 last|| (decide ((x.1.size:Int)>40)|| (decide (Lib.indexByte x.1.data.toList 0≥0)|| decide ((x.2.1.length:Int)>200)))):=by
 unfold DB qM iM ae1;cases hl:Go.Lm.leB x.1 last with
 | true=>simp
 | false=>
  have:=adk hl;rw [Bool.eq_iff_iff];simp only [lp,bY,Bool.and_eq_false_iff,decide_eq_false_iff_not,decide_eq_true_eq,eR,or_false,false_or];omega
def aiT:Ct:=cD eD λl=>c0 λQ=>Q (.bool (eI l)) []
def aaM:=aaN.add AY
abbrev II (y0:List (eD).den) (y1) (y2:SV->List HO->Prop) (y3:_->Prop):=List.length (aK eD y0 y1).2.1<=9223372036854775807->br (decide ((↑(List.length (aK eD y0 y1).2.1):Int)>(200:Int))) (bc y2) (cL y1 (y3 ((y1+1,(aK eD y0 y1).1,()),())))
abbrev eJ (y0:List (eD).den) (y1):=aK eD y0 y1
abbrev ye (y0:List (eD).den) (R:Prop):=List.length y0<=9223372036854775807->aL (List.length y0)->R
abbrev Ie (y0:List (eD).den) (y1:SV->List HO->Prop):=aL (List.length y0)->y1 (.v (.c (.k (.bool (decide ((aE y0)<=iA)))))) []
def Rh (l:(List (eD).den)):dE:=λQ=>ye l (bp (λi ag=>br (decide (i.1.1< (aE l))) (0<=i.1.1/\i.1.1< (aE l)/\(Ty.ok eD (eJ l i.1.1)->br (uB (eJ l i.1.1).1 i.1.2.1|| mJ (eJ l i.1.1).1 i.1.2.1) (bc Q) (br (decide 
 ((↑(ByteArray.size (eJ l i.1.1).1):Int)>(40:Int))) (bc Q) (aF .i64 (Lib.indexByte (eJ l i.1.1).1.data.toList (Nat.toUInt8 bD))->br (decide (Lib.indexByte (eJ l i.1.1).1.data.toList (Nat.toUInt8 bD)≥0)) 
 (bc Q) (II l i.1.1 Q ag))))) (Ie l Q)) ((ah,ByteArray.mk #[],()),()))
theorem agY:cG 180 aiT:=fz<| lH λl=>iQ λQ h=>by
 refine Wp.dJ aaM xF ⟨[(4,⟨[(8,.int .i64),(3,.str)],[]⟩)],[]⟩ Tryz.f180 (Rh l) ?_;unfold Rh Ie ye eJ II bc cL kQ ah iA aE aL bD;intro _ _;refine bp.intro (λi=>0<=i.1.1/\i.1.1<=l.length/\iW l ⟨#[]⟩=iW (l.drop i.1.1.toNat) i.1.2.1) (λi=>l.length - i.1.1.toNat) ⟨by simp,by simp,by simp⟩ ?_;rintro ⟨⟨i,last,_⟩,_⟩ ⟨h0,h1,h2⟩;simp only at h0 h1 h2 ⊢;refine aw (λhc=>?_) (λhc=>?_)
 .have hc:i< l.length:=by simpa using hc
  refine ⟨h0,hc,λ_=>?_⟩;rw [fE (e:=eD) h0 hc] at h2;have bad:DB (aK eD l i) last=true->Q (.bool false) []:=λhb=>by
   simp only [iW,hb,if_true] at h2;unfold eI at h;rw [h2,mI] at h;exact h
  rw [Hl] at bad;refine aw (λh3=>bad (by unfold Go.Lm.leB;rw [h3];rfl)) (λh3=>aw (λh4=>bad (by rw [h4];simp)) (λh4=>λ_=>aw (λh5=>bad (by rw [show decide (Lib.indexByte (aK eD l i).1.data.toList 0≥0)=true from h5];simp)) (λh5=>λ_=>aw (λh6=>bad (by rw [h6];simp)) (λh6=>?_))));have hn:DB (aK eD l i) last=false:=by rw [Hl];unfold Go.Lm.leB;rw [h3,h4,show decide (Lib.indexByte (aK eD l i).1.data.toList 0≥0)=false from h5,h6];rfl
  simp only [iW,hn,eR,if_false] at h2;exact ⟨by unfold aF;omega,⟨by omega,by omega,h2⟩,by omega⟩
 .have hc:¬i< l.length:=by simpa using hc
  rw [ft hc] at h2;intro _;unfold eI at h;rw [h2] at h;exact h
def cX:List (Nat×Ty):=(96,eD)::xF
def aiO:Ct:=cD eD λl=>c0 λQ=>eI l=true/\∀ z e,amh l z e->Q (.cJ [.c (.d .u8 z),.c (.k (.int .i64 e))]) []
def aaL:=aaM.add agY
def Q7 (l:(List (eD).den)):dE:=λQ=>ye l (br ((aE l)==0) (Q kj []) (br (!eI l) (Q kj []) (aL (List.length l)->pq ((ah<=(aE l)/\(aE l)< fb ^ bJ)/\bD<=j5/\(aL (List.length l)->bp (λi ag=>br (decide 
 (i.1.1< (aE l))) (0<=i.1.1/\i.1.1< (aE l)/\(Ty.ok eD (eJ l i.1.1)->i.2.1.1=ah/\ByteArray.size (eJ l i.1.1).1<=255/\List.length i.2.1.2.1<=1000000000/\bt (ByteArray.size (fD (eJ l i.1.1).2.1)<=255/\ 
 List.length (i.2.1.2.1++az (ByteArray.size (eJ l i.1.1).1)::(eJ l i.1.1).1.data.toList)<=1000000000/\cL i.1.1 (ag ((i.1.1+1,()),(ah,i.2.1.2.1++az (ByteArray.size (eJ l i.1.1).1)::(eJ l 
 i.1.1).1.data.toList++az (ByteArray.size (fD (eJ l i.1.1).2.1))::(fD (eJ l i.1.1).2.1).data.toList,()),()))))) (F8 i.2.1.1 i.2.1.2.1 Q)) ((ah,()),(ah,[]++aI bJ (ax (aE l)),()), 
 ()))))))
theorem Wx:cG 133 aiO:=fz<| lH λl=>iQ λQ h=>by
 refine Wp.lq [some (.sl .u8),none] [] ?_;refine Wp.dJ aaL cX ⟨[(7,⟨[(20,.int .i64)],[(0,.cells 174 [.int .i64,.own 5 .u8])]⟩)],[]⟩ Tryz.f133 (Q7 l) ?_;unfold Q7 ye eJ j5 bt pq F8 cL kj bO dL a6 ah bd fb cC aE aL bD bJ;obtain ⟨hx,h⟩:=h;obtain ⟨hm,hl⟩:=oV hx;have hle:=Hx hm;refine λ_ _=>aw (λhc=>?_) (λhc=>?_)
 .have hc:(l.length:Int)=0:=eq_of_beq hc;exact ⟨ay _,h [] 1 ⟨.inl ⟨aJ (by omega),rfl,rfl⟩⟩⟩
 rw [hx];have gx:l≠ []:=λe=>by subst e;cases hc
 refine aw (λq=>by cases q) (λ_=>λ_=>⟨by trivial,⟨by decide,by decide⟩,⟨by omega,by show _< (256:Int);omega⟩,by decide,λ_=>?_⟩);refine bp.intro (λi=>(0<=i.1.1/\i.1.1<=l.length)/\i.2.1.1=0/\i.2.1.2.1=aI 1 l.length++gj (pf (l.take i.1.1.toNat))) (λi=>(l.length - i.1.1).toNat) ⟨⟨bz _,by show (0:Int)<=_;omega⟩,rfl,by rw [dQ,aU];exact (aW _).symm⟩ ?_;rintro ⟨⟨j,_⟩,⟨c,x,_⟩,_⟩ ⟨⟨j0,j1⟩,h1,h2⟩;simp only at j0 j1 h1 h2 ⊢;subst h1;have hxl:x.length<=5000:=by
  have a1:=uT (l:=pf (l.take j.toNat)) λt ht=>hle t (by
   have e:pf l=pf (l.take j.toNat)++pf (l.drop j.toNat):=by rw [<-J5,cv]
   rw [e];exact bM _ ht)
  rw [n5,aA] at a1;rw [h2,af,aB];omega
 refine aw (λhc=>?_) (λhc=>?_)
 .have hc:j< (l.length:Int):=of_decide_eq_true hc;obtain ⟨m1,m2,m3⟩:=hm _ (uF (e:=eD) j0 hc);have ht:=ixT (e:=eD) j0 hc;obtain ⟨y,hy⟩:∃ y,aK eD l j=y:=⟨_,rfl⟩;rw [hy] at m1 m2 m3 ht ⊢;rw [aex,tb];have e2:x++az y.1.size::y.1.data.toList++az y.2.1.length::y.2.1=aI 1 l.length++gj (pf (l.take (j+1).toNat)):=by
   rw [ht,J5,uU,show pf [y]=xaL y++ [] from rfl,aW,On,h2];simp only [aG]
  exact ⟨j0,hc,λ_=>⟨by trivial,by omega,by omega,by trivial,by omega,by simp only [af,aq,<-kz];omega,by unfold aF;omega,⟨⟨by omega,by omega⟩,by trivial,e2⟩,by omega⟩⟩
 .have hc:¬j< (l.length:Int):=of_decide_eq_false hc;rw [aT (by omega)] at h2;exact ⟨by trivial,by omega,λ_ _=>⟨ay _,h _ _ ⟨.inr ⟨gx,h2,rfl⟩⟩⟩⟩
def ad9:Ct:=cP<| cI λr=>cI λm=>cO λH Q=>match H with
 | [.abs A]=>∃ fs R,RB A fs R/\∃ o:Nat,o<=R.length/\r=(dU fs o:Int)/\∃ (ts:List (List UInt8)) (q:List UInt8),R.drop o=gj ts++q/\(∀ t∈ts,t.length<=255)/\m=ts.length/\ts.length<=100/\∀ A',RB A' fs R->Q (.cJ [.c (.d (.sl .u8) ts),.c (.k (.int .i64 0))]) [.abs A']
 | _=>False
def aaK:=aaL.add Wx
def KE (r m:Int) (A:Value->Atom):dE:=λQ=>cj r m (bp (λi ag=>br (decide (i.1.2.2.1< m)) (∃ fs R,RB i.2.1 fs R/\∃ o,o<=List.length R/\i.1.2.1=(↑(dU fs o):Int)/\(ah<=bd/\bd<=(10000000:Int))/\∀ (A':Value->Atom) (z:List 
 UInt8) (nx e:Int),RB A' fs R->pc fs R o bJ z nx e->cY z (cj nx e (br (e !=0) (Q (.cJ [.c dL,.c (.k (aC e))]) [HO.abs A']) (ah<=ah/\ah< (aE z)/\(kJ z (∃ fs R,RB A' fs R/\∃ o,o<=List.length R 
 /\nx=(↑(dU fs o):Int)/\(ah<=(fM z)/\(fM z)<=(10000000:Int))/\∀ (A':Value->Atom) (z_1:List UInt8) (nx e:Int),RB A' fs R->pc fs R o (ax (fM z)) z_1 nx e->cY z_1 (cj nx e (br (e !=0) (Q 
 (.cJ [.c dL,.c (.k (aC e))]) [HO.abs A']) ((List.length i.1.1+List.length [z_1])*24<=cw/\List.length i.1.1+List.length [z_1]<=9223372036854775807/\cL i.1.2.2.1 (ag ((i.1.1++ [z_1],nx,i.1.2.2.1+1,()),A', 
 ()))))))))))) (Q (SV.cJ [S1.c (.o 1),.c (.k a6)]) [HO.abs i.2.1,.sl 35 bE i.1.1])) (([],r,ah,()),A,()))
theorem abX:cG 197 ad9:=fz<| rJ<| nG λr=>nG λm=>rK λH Q h=>by
 split at h;rotate_left;cases h;rename_i A;refine Wp.lq [some (.sl (.sl .u8)),none] [1] ?_;refine Wp.dJ aaK cX ⟨[(4,⟨[(8,.own 35 (.sl .u8)),(1,.int .i64),(15,.int .i64)],[(0,.abs)]⟩)],[]⟩ Tryz.f197 (KE r m A) ?_;unfold KE kJ cY cj cL cw dL a6 fM aC ah bd aE aL bJ bE;obtain ⟨fs,R,hR,o,ho,rfl,ts,q,hd,hle,rfl,hl,h⟩:=h;have Oi:∀ j:Nat,R.drop (o+(gj (ts.take j)).length)=gj (ts.drop j)++q:=λj=>by
  rw [<-eG,hd]
  conv=>lhs;rw [<-cv j ts,uU,aG]
  rw [cv];exact eV
 refine λ_ _=>bp.intro (λi=>∃ j,j<=ts.length/\i.1.1=ts.take j/\i.1.2.1=(dU fs (o+(gj (ts.take j)).length):Nat)/\i.1.2.2.1=(j:Int)/\RB i.2.1 fs R) (λi=>ts.length - i.1.1.length) ⟨0,cq _,rfl,rfl,rfl,hR⟩ ?_;rintro ⟨⟨x,r',k,_⟩,A',_⟩ ⟨j,hj,h1,h2,h3,hR⟩;simp only at hj h1 h2 h3 hR ⊢;subst h1 h2 h3;have Oh:(ts.take j).length=j:=by rw [aA];omega
 refine aw (λhc=>?_) (λhc=>?_)
 .have hc:(j:Int)< ts.length:=of_decide_eq_true hc;have M7:j< ts.length:=by omega
  have hp:=Oi j;obtain ⟨p,Av⟩:∃ p,o+(gj (ts.take j)).length=p:=⟨_,rfl⟩;obtain ⟨t,hte⟩:∃ t,ts[j]=t:=⟨_,rfl⟩;have htl:=hle t (by rw [<-hte];exact dw M7);have ht:ts.take j++ [t]=ts.take (j+1):=by rw [bU M7,hte]
  have ank:(gj (ts.take (j+1))).length=(gj (ts.take j)).length+1+t.length:=by
   rw [<-ht,uU,af];show _+(wg t++ []).length=_;rw [aW];unfold wg;rw [aq];omega
  rw [cg M7,hte,zB,Av] at hp;rw [Av];unfold wg at hp;simp only [eO,aG] at hp;have Au:=congrArg List.length hp;rw [aN,aq,af] at Au;have hp1:R.drop (p+1)=t++(gj (ts.drop (j+1))++q):=by
   rw [<-eG,hp];rfl
  refine ⟨fs,R,hR,p,by omega,rfl,⟨by decide,by decide⟩,λA' z nx e hR hz _ _ _=>?_⟩;obtain ⟨rfl,rfl,rfl⟩:=hz.ok (by omega);rw [hp];refine aw (λq=>by cases q) (λ_=>⟨by decide,by show (0:Int)< 1;decide,λ_=>?_⟩);show ∃ fs R,_;have hu:(aK .u8 (List.take 1 (az t.length::(t++(gj (ts.drop (j+1))++q)))) 0).toNat=t.length:=Xy htl;rw [hu];refine ⟨fs,R,hR,p+1,by omega,rfl,⟨by omega,by omega⟩,λA' z nx e hR hz _ _ _=>?_⟩;rw [aU] at hz;obtain ⟨rfl,rfl,rfl⟩:=hz.ok (by omega);rw [hp1,List.take_left,Oh,ht];exact aw (λq=>by cases q) (λ_=>⟨by simp only [aD];omega,by simp only [aD];omega,by unfold aF;omega,⟨j+1,M7,rfl,by rw [ank,show o+((gj (ts.take j)).length+1+t.length)=p+1+t.length by omega],by omega,hR⟩,by rw [aA];omega⟩)
 .have hc:¬(j:Int)< ts.length:=of_decide_eq_false hc;rw [aT (by omega)];exact ⟨by show 1<=2;decide,h A' hR⟩
end Go.Proofs

