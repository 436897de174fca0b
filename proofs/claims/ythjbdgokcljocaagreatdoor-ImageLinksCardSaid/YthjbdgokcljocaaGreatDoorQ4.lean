/- Texts of mine, laid together: I9 Shelf LmZi I10 I11 I12 I13 LmKN LmZj I14 LmVzb KeyI LmZk LmZl I15 LmZm I16. -/
import Derived.Test.YthjbdgokcljocaaGreatDoorQ3
import Derived.Test.YthjbdgokcljocaaGreatDoorProg
import Derived.Test.YthjbdgokcljocaaGreatDoorChecked
import Derived.Shelf.Strings.Builder1
import Derived.Shelf.Strings.Builder2
import Derived.Shelf.Strings.OnBuilder
import Derived.Shelf.Small.Bits
import Derived.Shelf.Small.Strs
import Derived.Shelf.Strings.BuilderF
import Derived.Shelf.Strings.BuilderK
import Derived.Shelf.Strings.Builder2Cap
import Derived.Shelf.Strconv.Itoa0
import Derived.Shelf.Strings.Search1
import Derived.Shelf.Sort.Plain
import Derived.Shelf.Strings.BuilderCap
import Derived.Ground.Names2Prog
import Derived.Shelf.Slices.Clone
import Derived.Shelf.Slices.In.SortNone
import Derived.Shelf.Bytes.SlSearch0
import Derived.Ground.SlbCloneProg
import Derived.Shelf.Bytes.SlClone
import Derived.Ground.SlsfProg
import Derived.Shelf.SlSortCmp.Insertion
import Derived.Shelf.Bytes.SlEqualAll
import Derived.Shelf.Bytes.Small
import Derived.Test.YthjbdgokcljocaaGreatDoorQ1
import Derived.Lib.SplitLaws
import Derived.Lib.Split
import Derived.Lib.Join
import Derived.Laws.Concat
import Derived.Sort.KeysCollected
import Derived.Shelf.SlIterI.Sorted
import Derived.Lib.SlKeysI
set_option linter.unusedVariables false
open Array renaming length_toList → dw
open Bool renaming and_eq_true → ao, not_eq_true' → bG, false_eq_true → dP, false_and → gO, or_eq_true → iD, eq_iff_iff → iE, false_or → jE
open Int renaming toNat → aA, toNat_natCast → bm, le_refl → bp
open List renaming length_append → af, length_cons → aq, replicate → au, length_singleton → ay, length_take → aD, mem_cons_of_mem → aG, append_assoc → aH, eq_nil_of_length_eq_zero → aK, length_nil → aL, mem_map → aM, getD_eq_getElem?_getD → aP, mem_cons_self → aS, length_replicate → aT, getElem?_append_left → aU, take_of_length_le → aV, length_drop → aW, mem_cons → aX, mem_append → aY, getElem?_append_right → aZ, append_nil → a7, flatten_cons → bF, mem_append_left → bH, length_map → bL, drop_eq_getElem_cons → bO, take_append_drop → bY, take_succ_eq_append_getElem → bZ, map_cons → cg, getElem_mem → df, cons_append → eB, nodup_cons → eD, nil_append → eE, drop_eq_nil_of_le → eZ, take_length → ff, drop_left → fB, mem_filter → fQ, map_congr_left → gH, drop_drop → iC, flatMap_cons → kq
open Nat renaming le_refl → az, zero_le → cr, min_eq_left → eP, lt_or_ge → eQ, add_mul → fj, add_zero → j4
open Go.Proofs.Tryz renaming prog → ck, underlying3 → o5
open UInt8 renaming ofNat → ax, toNat → cF
noncomputable section
namespace Go.Proofs
open Go Go.Lm Go.RowKit
set_option maxRecDepth 1000000
def ai2:Ct:=cI λx=>c0 λQ=>Q (.bool false) []
def agi:=((agj.add Kh).add Ez).add EA
def Ro (x:Int):dE:=λQ=>aI .i64 x->Q (.v (.c (.k (.bool (x !=x))))) []
theorem WQ:cM 179 ai2:=fe<| nK λx=>iB λQ h=>by
 refine Wp.dL agi jw ⟨[],[]⟩ Tryz.f179 (Ro x) (hold:=[92]) ?_;unfold Ro;intro _;rw [show (x !=x)=false by simp];exact h
def aeE:Ct:=cI λx=>cI λy=>c0 λQ=>Q (.bool (decide (x< y))) []
def agh:=agi.add WQ
def K1 (x y:Int):dE:=λQ=>cn x y (Q (.v (.c (.k (.bool (decide (x< y)))))) [])
theorem QT:cM 131 aeE:=fe<| nK λx=>nK λy=>iB λQ h=>by
 refine Wp.dL agh jw ⟨[],[]⟩ Tryz.f131 (K1 x y) (hold:=[92]) ?_;unfold K1 cn;exact λ_ _=>h
def VO:Ct:=cD (Ty.int .i64) λx=>c0 λQ=>T6 x/\Q (.bool true) []
def agf:=agh.add QT
abbrev bq (y0:SV->List HO->Prop):=y0 jF []
abbrev ik (y0:List ((Ty.int .i64)).den) (R:Prop):=List.length y0<=9223372036854775807->R
abbrev yy (y0:List ((Ty.int .i64)).den) (y1) (R:Prop):=Ty.ok bw (aB bw y0 y1)->aI .i64 (y1 - 1)/\0<=y1 - 1/\y1 - 1< (aF y0)/\R
abbrev lH (y0:List ((Ty.int .i64)).den) (y1):=aB bw y0 (y1 - 1)
def Bi (x:(List ((Ty.int .i64)).den)):dE:=λQ=>ik x (aN (List.length x)->aI .i64 ((aF x) - 1)/\ba (λi ag=>br (decide (i.1.1>0)) (0<=i.1.1/\i.1.1< (aF x)/\(yy x i.1.1 (Ty.ok bw (lH x i.1.1)->br (decide (aB bw x i.1.1< aB bw x (i.1.1 
 - 1))) (bq Q) (aI .i64 (i.1.1 - 1)/\ag ((i.1.1 - 1,()),()))))) (Q oZ [])) (((aF x) - 1,()),()))
theorem Ev:cM 105 VO:=fe<| kC λx=>iB λQ h=>by
 refine Wp.dL agf jw ⟨[(3,⟨[(3,.int .i64)],[]⟩)],[]⟩ Tryz.f105 (Bi x) (hold:=[92]) ?_;unfold Bi lH yy ik bq jF oZ aF aN bw;obtain ⟨hs,h⟩:=h;refine λ_ _=>⟨by unfold aI;omega,ba.intro (λi=>i.1.1< (x.length:Int)) (λi=>i.1.1.toNat) (by show (x.length:Int) - 1< x.length;omega) ?_⟩;rintro ⟨⟨i,_⟩,_⟩ h0;simp only at h0 ⊢;refine aw (λhc=>?_) (λ_=>h);have hc:i>0:=of_decide_eq_true hc;have:=hs.le i (by omega) h0;have h0:i< (x.length:Int):=h0;exact ⟨by omega,h0,λ_=>⟨by unfold aI;omega,by omega,by omega,λ_=>aw (λhd=>absurd (of_decide_eq_true hd) (Int.not_lt.2 this)) (λ_=>⟨by unfold aI;omega,by show i - 1< (x.length:Int);omega,by show (i - 1).toNat< i.toNat;omega⟩)⟩⟩
def VM:Ct:=cN ot λs=>c0 λQ=>Q (.v (.agg [.k (.int .i64 64),.k (.int .i64 s.2.2.1),.k (.int .i64 s.2.2.2.1),.k (.int .i64 s.2.2.2.2.1),.k (.int .i64 s.2.2.2.2.2.1),.k (.int .i64 s.2.2.2.2.2.2.1),.k (.int .i64 s.1),.k (.int .i64 1048576)])) []
def age:=agf.add Ev
abbrev cU (y0:Int) (y1:Int) (y2:Int) (R:Prop):=aI .i64 y0->aI .i64 y1->aI .i64 y2->R
def Bg:((ot).den)->dE:=
 λs Q=>cU s.1 s.2.1 s.2.2.1 (cU s.2.2.2.1 s.2.2.2.2.1 s.2.2.2.2.2.1 (cU s.2.2.2.2.2.2.1 s.2.2.2.2.2.2.2.1 s.2.2.2.2.2.2.2.2.1 (aI .i64 s.2.2.2.2.2.2.2.2.2.1->Q (SV.v (S1.agg [.k (.int .i64 64),.k (aE s.2.2.1),.k (aE 
 s.2.2.2.1),.k (aE s.2.2.2.2.1),.k (aE s.2.2.2.2.2.1),.k (aE s.2.2.2.2.2.2.1),.k (aE s.1),.k (.int .i64 1048576)])) [])))
theorem Uh:cM 143 VM:=fe<| Va λs=>iB λQ h=>by
 refine Wp.dL age jw ⟨[],[]⟩ Tryz.f143 (Bg s) (hold:=[92]) ?_;unfold Bg cU aE;exact λ_ _ _ _ _ _ _ _ _ _=>h
def VN:Ct:=cI λx=>cI λy=>cI λz=>c0 λQ=>(y<=x/\x<=z)/\Q (.bool true) []
def agd:=age.add Uh
def Bh (x y z:Int):dE:=λQ=>cU x y z (br (decide (y<=x)) (Q (.v (.c (.k (.bool (decide (x<=z)))))) []) (bq Q))
theorem Ui:cM 144 VN:=fe<| nK λx=>nK λy=>nK λz=>iB λQ h=>by
 refine Wp.dL agd jw ⟨[],[]⟩ Tryz.f144 (Bh x y z) (hold:=[92]) ?_;unfold Bh bq cU jF;obtain ⟨⟨h1,h2⟩,h⟩:=h;refine λ_ _ _=>aw (λ_=>?_) (λhc=>absurd h1 (of_decide_eq_false hc));rw [decide_eq_true h2];exact h
def Qv:Ct:=cN ot λs=>c0 λQ=>rE s/\Q (.bool true) []
def agc:=agd.add Ui
def zC:((ot).den)->dE:=
 λs Q=>cU s.1 s.2.1 s.2.2.1 (cU s.2.2.2.1 s.2.2.2.2.1 s.2.2.2.2.2.1 (cU s.2.2.2.2.2.2.1 s.2.2.2.2.2.2.2.1 s.2.2.2.2.2.2.2.2.1 (aI .i64 s.2.2.2.2.2.2.2.2.2.1->aI .i64 64->cU s.2.2.1 s.2.2.2.1 s.2.2.2.2.1 (cU 
 s.2.2.2.2.2.1 s.2.2.2.2.2.2.1 s.1 (aI .i64 1048576->Gd<=eU/\0<=cq none 0/\cq none 0< (↑Gd:Int)/\cq none 0<=cq none (↑Gd:Int)/\cq none (↑Gd:Int)<=(↑Gd:Int)/\T6 [gv,s.2.2.1, 
 s.2.2.2.1,s.2.2.2.2.1,s.2.2.2.2.2.1,s.2.2.2.2.2.2.1,s.1,(1048576:Int)]/\(1<=s.2.1/\s.2.1<=1024)/\(1<=s.2.2.2.2.2.2.2.1/\s.2.2.2.2.2.2.2.1<=2048)/\(0<=s.2.2.2.2.2.2.2.2.1/\s.2.2.2.2.2.2.2.2.1<=1024)/\(0<= 
 s.2.2.2.2.2.2.2.2.2.1/\s.2.2.2.2.2.2.2.2.2.1<=4294967295)/\Q oZ [])))))
theorem Oy:cM 91 Qv:=fe<| Va λs=>iB λQ h=>by
 refine Wp.dL agc jw ⟨[],[]⟩ Tryz.f91 (zC s) (hold:=[92,105]) ?_;unfold zC eU cU oZ gv Gd;obtain ⟨hs,h⟩:=h;exact λ_ _ _ _ _ _ _ _ _ _ _ _ _ _ _ _ _ _=>⟨by decide,by decide,by decide,by decide,by decide,ahG hs.p1 hs.p2 hs.p3 hs.p4 hs.p5 hs.p6 hs.p7,hs.n1,hs.n2,hs.n3,hs.n4,h⟩
def aiQ:Ct:=cP<| cO λH Q=>match H with
 | [.cells 86 [.k (.int .i64 s0),.k (.int .i64 s1),.k (.int .i64 s2),.k (.int .i64 s3),.k (.int .i64 s4),.k (.int .i64 s5),.k (.int .i64 s6),.k (.int .i64 s7),.k (.int .i64 s8),.k (.int .i64 s9)]]=>Q (.c (.sc 1 0 7)) [.cells 86 [.k (.int .i64 s0),.k (.int .i64 s1),.k (.int .i64 s2),.k (.int .i64 s3),.k (.int .i64 s4),.k (.int .i64 s5),.k (.int .i64 s6),.k (.int .i64 s7),.k (.int .i64 s8),.k (.int .i64 s9)],.cells 130 [.p 0 0,.p 0 2,.p 0 3,.p 0 4,.p 0 5,.p 0 6,.p 0 9]]
 | _=>False
def agb:=agc.add Oy
def Q7 (s0 s1 s2 s3 s4 s5 s6 s7 s8 s9:Int):dE:=λQ=>Q (SV.v (S1.c (Cl.sc bJ bC kc))) [.cells 86 [.k (aE s0),.k (aE s1),.k (aE s2),.k (aE s3),.k (aE s4),.k (aE s5),.k (aE s6),.k (aE s7),.k (aE s8),.k (aE s9)],.cells 
 130 [.p 0 0,.p 0 2,.p 0 3,.p 0 4,.p 0 5,.p 0 6,.p 0 9]]
theorem agW:cM 93 aiQ:=fe<| rK<| rM λH Q h=>by
 split at h;rotate_left;cases h;rename_i s0 s1 s2 s3 s4 s5 s6 s7 s8 s9;refine Wp.dL agb jw ⟨[],[]⟩ Tryz.f93 (Q7 s0 s1 s2 s3 s4 s5 s6 s7 s8 s9) (hold:=[92,105]) ?_;unfold Q7 aE bC bJ kc;exact h
def ZX:Ct:=cP<| cO λH Q=>match H with
 | [.cells 86 [.k (.int .i64 s0),.k (.int .i64 s1),.k (.int .i64 s2),.k (.int .i64 s3),.k (.int .i64 s4),.k (.int .i64 s5),.k (.int .i64 s6),.k (.int .i64 s7),.k (.int .i64 s8),.k (.int .i64 s9)]]=>Q (.c (.sc 1 0 3)) [.cells 86 [.k (.int .i64 s0),.k (.int .i64 s1),.k (.int .i64 s2),.k (.int .i64 s3),.k (.int .i64 s4),.k (.int .i64 s5),.k (.int .i64 s6),.k (.int .i64 s7),.k (.int .i64 s8),.k (.int .i64 s9)],.cells 130 [.p 0 1,.p 0 7,.p 0 8]]
 | _=>False
def aga:=agb.add agW
def ES (s0 s1 s2 s3 s4 s5 s6 s7 s8 s9:Int):dE:=λQ=>Q (SV.v (S1.c (Cl.sc bJ bC eX))) [.cells 86 [.k (aE s0),.k (aE s1),.k (aE s2),.k (aE s3),.k (aE s4),.k (aE s5),.k (aE s6),.k (aE s7),.k (aE s8),.k (aE s9)],.cells 
 130 [.p 0 1,.p 0 7,.p 0 8]]
theorem WN:cM 94 ZX:=fe<| rK<| rM λH Q h=>by
 split at h;rotate_left;cases h;rename_i s0 s1 s2 s3 s4 s5 s6 s7 s8 s9;refine Wp.dL aga jw ⟨[],[]⟩ Tryz.f94 (ES s0 s1 s2 s3 s4 s5 s6 s7 s8 s9) (hold:=[92,105]) ?_;unfold ES aE bC bJ eX;exact h
def Qu:Ct:=cT λT=>cN ot λs=>c0 λQ=>T.length=256/\rE s/\Q (.cZ [.c (.d .u8 (fS T s)),.c (.k (.int .i64 0))]) []
def af9:=aga.add WN
abbrev eV:=ah+1+1+1+1
abbrev fZ:=ah+1+1+1+1+1
abbrev ee:=ah+1+1+1
abbrev ln:=ah+1+1+1+1+1+1
abbrev dS:=ah+1+1
abbrev eC:=(0:Ty.den Ty.u8)
abbrev pW (R:Prop):=ah<=ah+1+1+1+1+1+1/\ah+1+1+1+1+1+1< (↑kc:Int)/\R
abbrev sh (y0) (y1:List Int):=y0++aJ cX (aA (cw y1 ah y0))
abbrev Ye {A2:Type} (y0:Int) (y1:Int) (y2:List A2) (R:Prop):=y0=ah/\(a8<=cH/\cH<=cH)/\(0<=y1/\y1< 256 ^ cX)/\List.length y2<=100000000000/\R
abbrev pV (R:Prop):=ah<=ah+1+1+1+1+1/\ah+1+1+1+1+1< (↑kc:Int)/\R
abbrev fV (R:Prop):=ah<=ah+1+1+1+1/\R
abbrev pT (R:Prop):=ah<=ah+1+1+1/\ah+1+1+1< (↑kc:Int)/\R
abbrev dG:=ah+1
abbrev lG (y0:Int):=0<=y0/\y0< 256 ^ bj
abbrev pR (R:Prop):=ah<=ah+1+1/\ah+1+1< (↑kc:Int)/\R
abbrev IG (y0) (y1:List Int):=y0++aJ cX (aA (cw y1 ah y0))++au (aA (gv - (a6 (sh y0 y1)))) eC
abbrev mg (R:Prop):=ah<=ah+1/\ah+1< (↑kc:Int)/\R
abbrev yJ (y0) (y1) (y2) (y3:_->Prop):=Ye y0 y1 y2 (y3 ((),(ah,y2++aJ cX (bc y1),()),()))
abbrev mc (R:Prop):=ah<=ah/\ah< (↑kc:Int)/\R
abbrev Ix {A2:Type} (y0) (y1) (y2:List A2) (R:Prop):=y0=ah/\(a8<=du/\du<=cH)/\(lG y1)/\List.length y2<=100000000000/\R
abbrev pA (R:Prop):=aI .i64 (ah+1+1+1+1+1+1+1)/\R
abbrev l7 (R:Prop):=ah+1+1+1+1< (↑kc:Int)/\R
abbrev oC (y0:Int):=0<=y0/\y0< 256 ^ cX
abbrev Ig (y0) (y1):=((),(ah,y0++aJ bj (bc y1),()),())
def zB:(List Int)->((ot).den)->dE:=
 λT s Q=>cU s.1 s.2.1 s.2.2.1 (cU s.2.2.2.1 s.2.2.2.2.1 s.2.2.2.2.2.1 (cU s.2.2.2.2.2.2.1 s.2.2.2.2.2.2.2.1 s.2.2.2.2.2.2.2.2.1 (aI .i64 s.2.2.2.2.2.2.2.2.2.1->rE s/\ [ax 76,ax 77,ax 76, 
 ax 65]≠ []/\bu (bC<=kh/\cX<=(100000000:Nat)/\kc<=eU/\cY (λk=>mc (bu ((a8<=cH/\cH<=cH)/\(oC s.1)/\cX<=kh/\k ((),(ah,[]++ [ax 76,ax 
 77,ax 76,ax 65]++aJ cX (bc s.1),()),())))) λi=>aI .i64 dG/\cY (λk=>mg (yJ i.2.1.1 s.2.2.1 i.2.1.2.1 k)) λi=>aI .i64 dS/\cY (λk=>pR (yJ i.2.1.1 s.2.2.2.1 
 i.2.1.2.1 k)) λi=>aI .i64 ee/\cY (λk=>pT (yJ i.2.1.1 s.2.2.2.2.1 i.2.1.2.1 k)) λi=>aI .i64 eV/\cY (λk=>fV (l7 (Ye i.2.1.1 s.2.2.2.2.2.1 i.2.1.2.1 (k ((),(ah,i.2.1.2.1++aJ cX 
 (bc s.2.2.2.2.2.1),()),()))))) λi=>aI .i64 fZ/\cY (λk=>pV (yJ i.2.1.1 s.2.2.2.2.2.2.1 i.2.1.2.1 k)) λi=>aI .i64 ln/\cY (λk=>pW (yJ i.2.1.1 s.2.2.2.2.2.2.2.2.2.1 i.2.1.2.1 k)) λi=> 
 pA (eX<=eU/\cY (λk=>ah<=ah/\ah< jL/\Ix i.2.1.1 s.2.1 i.2.1.2.1 (k (Ig i.2.1.2.1 s.2.1))) λi=>aI .i64 dG/\cY (λk=>ah<=ah+1/\ah+1< jL/\Ix i.2.1.1 
 s.2.2.2.2.2.2.2.1 i.2.1.2.1 (k (Ig i.2.1.2.1 s.2.2.2.2.2.2.2.1))) λi=>aI .i64 dS/\cY (λk=>ah<=ah+1+1/\ah+1+1< jL/\Ix i.2.1.1 s.2.2.2.2.2.2.2.2.1 i.2.1.2.1 (k (Ig i.2.1.2.1 
 s.2.2.2.2.2.2.2.2.1))) λi=>aI .i64 ee/\i.2.1.1=ah/\List.length i.2.1.2.1<=100000000000/\(aN (bQ i.2.1.2.1)->eG T (Iw T i.2.1.2.1 (List.length i.2.1.2.1<=100000000000/\bu (List.length (sh i.2.1.2.1 T) 
 <=100000000000/\(aI .i64 (a6 (sh i.2.1.2.1 T))->aI .i64 (gv - (a6 (sh i.2.1.2.1 T)))/\gv - (a6 (sh i.2.1.2.1 T))=gv - (a6 (sh i.2.1.2.1 T))/\ah<=gv - (a6 (sh i.2.1.2.1 T))/\gv - 
 (a6 (sh i.2.1.2.1 T))<=(140737488355328:Int)/\bu (List.length (sh i.2.1.2.1 T)<=100000000000/\List.length (au (aA (gv - (a6 (sh i.2.1.2.1 T)))) eC)<=100000000/\bu (List.length (IG 
 i.2.1.2.1 T)<=100000000000/\(List.length (IG i.2.1.2.1 T)<=9223372036854775807->aI .i64 0->Q (SV.cZ [S1.c (Cl.d Ty.u8 (IG i.2.1.2.1 T)),.c (.k bn)]) [])))))))))))))
theorem Bb:cM 57 Qu:=fe<| okT λT=>Va λs=>iB λQ h=>by
 refine Wp.lY [some (.sl .u8),none] [] ?_;refine Wp.dL af9 jw ⟨[],[(10,⟨[],[(1,.cells 174 [.int .i64,.own 5 .u8])]⟩),(15,⟨[],[(1,.cells 174 [.int .i64,.own 5 .u8])]⟩)]⟩ Tryz.f57 (zB T s) (hold:=[92,105]) (unr:=[(7,9),(12,5)]) ?_;unfold zB Ig jL oC l7 kh bu Iw pA Ix mc yJ mg IG eG pR lG dG pT fV bQ pV Ye eU sh pW eC dS ln ee fZ eV bn cU bc ah a8 du cH gv a6 aN bC bj bN eX cX kc;obtain ⟨hT,hs,h⟩:=h;obtain ⟨s0,s1,s2,s3,s4,s5,s6,s7,s8,s9,rfl,p1,p2,p3,p4,p5,p6,p7,n1,n2,n3,n4⟩:=hs.ints;have b0:0<=s0/\s0< 256 ^ 4:=⟨by have:=hs.p1;have:=hs.p2;have:=hs.p3;have:=hs.p4;have:=hs.p5;have:=hs.p6;have:=hs.p7;have:=hs.n1;have:=hs.n2;have:=hs.n3;have:=hs.n4;omega,by have:=hs.p1;have:=hs.p2;have:=hs.p3;have:=hs.p4;have:=hs.p5;have:=hs.p6;have:=hs.p7;have:=hs.n1;have:=hs.n2;have:=hs.n3;have:=hs.n4;show _< (4294967296:Int);omega⟩;have b2:0<=s2/\s2< 256 ^ 4:=⟨by have:=hs.p1;have:=hs.p2;have:=hs.p3;have:=hs.p4;have:=hs.p5;have:=hs.p6;have:=hs.p7;have:=hs.n1;have:=hs.n2;have:=hs.n3;have:=hs.n4;omega,by have:=hs.p1;have:=hs.p2;have:=hs.p3;have:=hs.p4;have:=hs.p5;have:=hs.p6;have:=hs.p7;have:=hs.n1;have:=hs.n2;have:=hs.n3;have:=hs.n4;show _< (4294967296:Int);omega⟩;have b3:0<=s3/\s3< 256 ^ 4:=⟨by have:=hs.p1;have:=hs.p2;have:=hs.p3;have:=hs.p4;have:=hs.p5;have:=hs.p6;have:=hs.p7;have:=hs.n1;have:=hs.n2;have:=hs.n3;have:=hs.n4;omega,by have:=hs.p1;have:=hs.p2;have:=hs.p3;have:=hs.p4;have:=hs.p5;have:=hs.p6;have:=hs.p7;have:=hs.n1;have:=hs.n2;have:=hs.n3;have:=hs.n4;show _< (4294967296:Int);omega⟩;have b4:0<=s4/\s4< 256 ^ 4:=⟨by have:=hs.p1;have:=hs.p2;have:=hs.p3;have:=hs.p4;have:=hs.p5;have:=hs.p6;have:=hs.p7;have:=hs.n1;have:=hs.n2;have:=hs.n3;have:=hs.n4;omega,by have:=hs.p1;have:=hs.p2;have:=hs.p3;have:=hs.p4;have:=hs.p5;have:=hs.p6;have:=hs.p7;have:=hs.n1;have:=hs.n2;have:=hs.n3;have:=hs.n4;show _< (4294967296:Int);omega⟩;have b5:0<=s5/\s5< 256 ^ 4:=⟨by have:=hs.p1;have:=hs.p2;have:=hs.p3;have:=hs.p4;have:=hs.p5;have:=hs.p6;have:=hs.p7;have:=hs.n1;have:=hs.n2;have:=hs.n3;have:=hs.n4;omega,by have:=hs.p1;have:=hs.p2;have:=hs.p3;have:=hs.p4;have:=hs.p5;have:=hs.p6;have:=hs.p7;have:=hs.n1;have:=hs.n2;have:=hs.n3;have:=hs.n4;show _< (4294967296:Int);omega⟩;have b6:0<=s6/\s6< 256 ^ 4:=⟨by have:=hs.p1;have:=hs.p2;have:=hs.p3;have:=hs.p4;have:=hs.p5;have:=hs.p6;have:=hs.p7;have:=hs.n1;have:=hs.n2;have:=hs.n3;have:=hs.n4;omega,by have:=hs.p1;have:=hs.p2;have:=hs.p3;have:=hs.p4;have:=hs.p5;have:=hs.p6;have:=hs.p7;have:=hs.n1;have:=hs.n2;have:=hs.n3;have:=hs.n4;show _< (4294967296:Int);omega⟩;have b9:0<=s9/\s9< 256 ^ 4:=⟨by have:=hs.p1;have:=hs.p2;have:=hs.p3;have:=hs.p4;have:=hs.p5;have:=hs.p6;have:=hs.p7;have:=hs.n1;have:=hs.n2;have:=hs.n3;have:=hs.n4;omega,by have:=hs.p1;have:=hs.p2;have:=hs.p3;have:=hs.p4;have:=hs.p5;have:=hs.p6;have:=hs.p7;have:=hs.n1;have:=hs.n2;have:=hs.n3;have:=hs.n4;show _< (4294967296:Int);omega⟩;have b1:0<=s1/\s1< 256 ^ 2:=⟨by have:=hs.p1;have:=hs.p2;have:=hs.p3;have:=hs.p4;have:=hs.p5;have:=hs.p6;have:=hs.p7;have:=hs.n1;have:=hs.n2;have:=hs.n3;have:=hs.n4;omega,by have:=hs.p1;have:=hs.p2;have:=hs.p3;have:=hs.p4;have:=hs.p5;have:=hs.p6;have:=hs.p7;have:=hs.n1;have:=hs.n2;have:=hs.n3;have:=hs.n4;show _< (65536:Int);omega⟩;have b7:0<=s7/\s7< 256 ^ 2:=⟨by have:=hs.p1;have:=hs.p2;have:=hs.p3;have:=hs.p4;have:=hs.p5;have:=hs.p6;have:=hs.p7;have:=hs.n1;have:=hs.n2;have:=hs.n3;have:=hs.n4;omega,by have:=hs.p1;have:=hs.p2;have:=hs.p3;have:=hs.p4;have:=hs.p5;have:=hs.p6;have:=hs.p7;have:=hs.n1;have:=hs.n2;have:=hs.n3;have:=hs.n4;show _< (65536:Int);omega⟩;have b8:0<=s8/\s8< 256 ^ 2:=⟨by have:=hs.p1;have:=hs.p2;have:=hs.p3;have:=hs.p4;have:=hs.p5;have:=hs.p6;have:=hs.p7;have:=hs.n1;have:=hs.n2;have:=hs.n3;have:=hs.n4;omega,by have:=hs.p1;have:=hs.p2;have:=hs.p3;have:=hs.p4;have:=hs.p5;have:=hs.p6;have:=hs.p7;have:=hs.n1;have:=hs.n2;have:=hs.n3;have:=hs.n4;show _< (65536:Int);omega⟩;refine λ_ _ _ _ _ _ _ _ _ _=>⟨hs,by simp,rfl,by decide,by decide,by decide,?_⟩;refine cY.intro (λi=>i.2.1.1=0/\i.2.1.2.1=([76,77,76,65]:List UInt8)++aJ 4 s0.toNat) ⟨by decide,by decide,rfl,⟨by decide,by decide⟩,b0,by decide,rfl,rfl⟩ ?_;rintro ⟨_,⟨c,x,_⟩,_⟩ ⟨e1,e2⟩;dsimp only at e1 e2 ⊢;subst e1 e2;refine ⟨by unfold aI;decide,?_⟩;refine cY.intro (λi=>i.2.1.1=0/\i.2.1.2.1=([76,77,76,65]:List UInt8)++aJ 4 s0.toNat++aJ 4 s2.toNat) ⟨by decide,by decide,rfl,⟨by decide,by decide⟩,b2,by simp only [af,aC,aq,aL];decide,rfl,rfl⟩ ?_;rintro ⟨_,⟨c,x,_⟩,_⟩ ⟨e1,e2⟩;dsimp only at e1 e2 ⊢;subst e1 e2;refine ⟨by unfold aI;decide,?_⟩;refine cY.intro (λi=>i.2.1.1=0/\i.2.1.2.1=([76,77,76,65]:List UInt8)++aJ 4 s0.toNat++aJ 4 s2.toNat++aJ 4 s3.toNat) ⟨by decide,by decide,rfl,⟨by decide,by decide⟩,b3,by simp only [af,aC,aq,aL];decide,rfl,rfl⟩ ?_;rintro ⟨_,⟨c,x,_⟩,_⟩ ⟨e1,e2⟩;dsimp only at e1 e2 ⊢;subst e1 e2;refine ⟨by unfold aI;decide,?_⟩;refine cY.intro (λi=>i.2.1.1=0/\i.2.1.2.1=([76,77,76,65]:List UInt8)++aJ 4 s0.toNat++aJ 4 s2.toNat++aJ 4 s3.toNat++aJ 4 s4.toNat) ⟨by decide,by decide,rfl,⟨by decide,by decide⟩,b4,by simp only [af,aC,aq,aL];decide,rfl,rfl⟩ ?_;rintro ⟨_,⟨c,x,_⟩,_⟩ ⟨e1,e2⟩;dsimp only at e1 e2 ⊢;subst e1 e2;refine ⟨by unfold aI;decide,?_⟩;refine cY.intro (λi=>i.2.1.1=0/\i.2.1.2.1=([76,77,76,65]:List UInt8)++aJ 4 s0.toNat++aJ 4 s2.toNat++aJ 4 s3.toNat++aJ 4 s4.toNat++aJ 4 s5.toNat) ⟨by decide,by decide,rfl,⟨by decide,by decide⟩,b5,by simp only [af,aC,aq,aL];decide,rfl,rfl⟩ ?_;rintro ⟨_,⟨c,x,_⟩,_⟩ ⟨e1,e2⟩;dsimp only at e1 e2 ⊢;subst e1 e2;refine ⟨by unfold aI;decide,?_⟩;refine cY.intro (λi=>i.2.1.1=0/\i.2.1.2.1=([76,77,76,65]:List UInt8)++aJ 4 s0.toNat++aJ 4 s2.toNat++aJ 4 s3.toNat++aJ 4 s4.toNat++aJ 4 s5.toNat++aJ 4 s6.toNat) ⟨by decide,by decide,rfl,⟨by decide,by decide⟩,b6,by simp only [af,aC,aq,aL];decide,rfl,rfl⟩ ?_;rintro ⟨_,⟨c,x,_⟩,_⟩ ⟨e1,e2⟩;dsimp only at e1 e2 ⊢;subst e1 e2;refine ⟨by unfold aI;decide,?_⟩;refine cY.intro (λi=>i.2.1.1=0/\i.2.1.2.1=([76,77,76,65]:List UInt8)++aJ 4 s0.toNat++aJ 4 s2.toNat++aJ 4 s3.toNat++aJ 4 s4.toNat++aJ 4 s5.toNat++aJ 4 s6.toNat++aJ 4 s9.toNat) ⟨by decide,by decide,rfl,⟨by decide,by decide⟩,b9,by simp only [af,aC,aq,aL];decide,rfl,rfl⟩ ?_;rintro ⟨_,⟨c,x,_⟩,_⟩ ⟨e1,e2⟩;dsimp only at e1 e2 ⊢;subst e1 e2;refine ⟨by unfold aI;decide,by decide,?_⟩;refine cY.intro (λi=>i.2.1.1=0/\i.2.1.2.1=([76,77,76,65]:List UInt8)++aJ 4 s0.toNat++aJ 4 s2.toNat++aJ 4 s3.toNat++aJ 4 s4.toNat++aJ 4 s5.toNat++aJ 4 s6.toNat++aJ 4 s9.toNat++aJ 2 s1.toNat) ⟨by decide,by decide,rfl,⟨by decide,by decide⟩,b1,by simp only [af,aC,aq,aL];decide,rfl,rfl⟩ ?_;rintro ⟨_,⟨c,x,_⟩,_⟩ ⟨e1,e2⟩;dsimp only at e1 e2 ⊢;subst e1 e2;refine ⟨by unfold aI;decide,?_⟩;refine cY.intro (λi=>i.2.1.1=0/\i.2.1.2.1=([76,77,76,65]:List UInt8)++aJ 4 s0.toNat++aJ 4 s2.toNat++aJ 4 s3.toNat++aJ 4 s4.toNat++aJ 4 s5.toNat++aJ 4 s6.toNat++aJ 4 s9.toNat++aJ 2 s1.toNat++aJ 2 s7.toNat) ⟨by decide,by decide,rfl,⟨by decide,by decide⟩,b7,by simp only [af,aC,aq,aL];decide,rfl,rfl⟩ ?_;rintro ⟨_,⟨c,x,_⟩,_⟩ ⟨e1,e2⟩;dsimp only at e1 e2 ⊢;subst e1 e2;refine ⟨by unfold aI;decide,?_⟩;refine cY.intro (λi=>i.2.1.1=0/\i.2.1.2.1=fT (s0,s1,s2,s3,s4,s5,s6,s7,s8,s9,())) ⟨by decide,by decide,rfl,⟨by decide,by decide⟩,b8,by simp only [af,aC,aq,aL];decide,rfl,by unfold fT;simp only [aH]⟩ ?_;rintro ⟨_,⟨c,x,_⟩,_⟩ ⟨e1,e2⟩;dsimp only at e1 e2 ⊢;subst e1 e2;refine ⟨by unfold aI;decide,?_⟩;have hl:=u9 (s0,s1,s2,s3,s4,s5,s6,s7,s8,s9,());have uK:(fT (s0,s1,s2,s3,s4,s5,s6,s7,s8,s9,())++aJ 4 (cw T 0 (fT (s0,s1,s2,s3,s4,s5,s6,s7,s8,s9,()))).toNat).length=42:=by rw [af,aC,hl]
 have hc:=yY T 0 (fT (s0,s1,s2,s3,s4,s5,s6,s7,s8,s9,()));have hr:(au 22 (0:UInt8)).length=22:=aT;rw [uK];refine ⟨rfl,by omega,λ_=>⟨hT,λ_=>⟨rfl,⟨by decide,by decide⟩,⟨hc.1,by have:=hc.2;show _< (4294967296:Int);omega⟩,by omega,rfl,by omega,λ_=>⟨by unfold aI;decide,rfl,by decide,by decide,rfl,by omega,by show (au 22 (0:UInt8)).length<=_;omega,rfl,by show (_++au 22 (0:UInt8)).length<=_;rw [af,uK,hr];decide,λ_ _=>⟨az _,?_⟩⟩⟩⟩⟩;have e:fS T (s0,s1,s2,s3,s4,s5,s6,s7,s8,s9,())=fT (s0,s1,s2,s3,s4,s5,s6,s7,s8,s9,())++aJ 4 (cw T 0 (fT (s0,s1,s2,s3,s4,s5,s6,s7,s8,s9,()))).toNat++au 22 0:=by unfold fS;rw [aH]
 rw [e] at h;exact h
def ai1:Ct:=cB λx=>c0 λQ=>Q (.bool (x !=0)) []
def af8:=af9.add Bb
def Rm (x:Int):dE:=λQ=>aI .u8 x->Q (.v (.c (.k (.bool (x !=0))))) []
theorem ag8:cM 102 ai1:=fe<| okB λx=>iB λQ h=>by
 refine Wp.dL af8 jw ⟨[],[]⟩ Tryz.f102 (Rm x) (hold:=[92,105]) ?_;unfold Rm;exact λ_=>h
def aaq:Ct
 | [.v (.c cx),.v (.c (.fn 102 []))],[],Q=>(match (Ty.sl Ty.u8).of [cx] with
  | some (x,[])=>(∀ z∈x,z=0)/\Q (.int (-1)) []
  | _=>False)
 | _,_,_=>False
def af7:=af8.add ag8
abbrev yd (y0:SV->List HO->Prop):=y0 (.v (.c (.k (.int .i64 (-1:Int))))) []
def RN (x:(List (Ty.u8).den)):dE:=λQ=>cW x (aN (dv x)->ba (λi ag=>br (decide (i.1.1< (aF x))) (0<=i.1.1/\i.1.1< (aF x)/\(Ty.ok Ty.u8 (aB Ty.u8 x i.1.1)->br ((yl x i.1.1) !=0) (Q (gZ i.1.1) []) (fW i.1.1 ag))) (yd Q)) 
 fx)
theorem ahr:cM 146 aaq:=by
 intro args H Q h;unfold aaq at h;split at h;rotate_left;cases h;rename_i cx;split at h;rotate_left;cases h;rename_i x hx;refine Wp.said (args':=[.c (.d Ty.u8 x),.v (.c (.fn 102 []))]) (λE g=>bE.dd (dR hx) (bE.dd (λ_ h=>h) (λ_ h=>h))) ?_;clear hx;refine Wp.dL af7 jw ⟨[(3,⟨[(8,.int .i64)],[]⟩)],[]⟩ Tryz.f146 (RN x) (hold:=[92,105]) ?_;unfold RN yd yl fx gZ dv fW cW aE ah aF aN;obtain ⟨hx,h⟩:=h;refine λ_ _=>ba.intro (λi=>0<=i.1.1) (λi=>x.length - i.1.1.toNat) (bp _) ?_;rintro ⟨⟨i,_⟩,_⟩ h0;have h0:0<=i:=h0;refine aw (λhc=>?_) (λ_=>h);have hc:i< (x.length:Int):=of_decide_eq_true hc;have e:aB .u8 x i=0:=hx _ (rO (e:=.u8) h0 hc);dsimp only;rw [e];exact ⟨h0,hc,λ_=>aw (λhd=>by cases hd) (λ_=>⟨by unfold aI;omega,by show 0<=i+1;omega,by show x.length - (i+1).toNat< x.length - i.toNat;omega⟩)⟩
def Aj:Ct
 | [.v (.c cx),.v (.c (.fn 102 []))],[],Q=>(match (Ty.sl Ty.u8).of [cx] with
  | some (x,[])=>(∀ z∈x,z=0)/\Q (.bool false) []
  | _=>False)
 | _,_,_=>False
def af6:=af7.add ahr
def wh (x:(List (Ty.u8).den)):dE:=λQ=>cW x ((∀ (z:Ty.den Ty.u8),z∈x->z=eC)/\(aI .i64 (-1:Int)->Q (.v (.c (.k (.bool (decide ((-1:Int)≥ah)))))) []))
theorem Kz:cM 101 Aj:=by
 intro args H Q h;unfold Aj at h;split at h;rotate_left;cases h;rename_i cx;split at h;rotate_left;cases h;rename_i x hx;refine Wp.said (args':=[.c (.d Ty.u8 x),.v (.c (.fn 102 []))]) (λE g=>bE.dd (dR hx) (bE.dd (λ_ h=>h) (λ_ h=>h))) ?_;clear hx;refine Wp.dL af6 jw ⟨[],[]⟩ Tryz.f101 (wh x) (hold:=[92,105]) ?_;unfold wh eC cW ah;obtain ⟨hx,h⟩:=h;exact λ_=>⟨hx,λ_=>h⟩
def NH:Ct:=cT λT=>cD .u8 λim=>c0 λQ=>T.length=256/\im.length<=100000000/\∃ s r,rE s/\im=fS T s++r/\s.1=im.length/\Q (.cZ [.agg (ot.cells s),.c (.k (.int .i64 0))]) []
def af5:=af6.add Kz
abbrev Gc (y0:SV->List HO->Prop):=y0 (SV.cZ [S1.agg [.k bn,.k bn,.k bn,.k bn,.k bn,.k bn,.k bn,.k bn,.k bn,.k bn],.c (.k (.int .i64 2))]) []
abbrev zM {A0:Type} (y0:List A0) (R:Prop):=a8<=cH/\cH<=cH/\cH<=(a6 y0)/\fp (bQ y0)/\R
abbrev B9 (y0:List (Ty.u8).den):=List.take (aA (min (aF y0) gv)) y0
abbrev pC {A0:Type} (y0:List A0):=List.take cX y0
abbrev IC {A1:Type} (y0) (y1:List A1) (R:Prop):=y0=ah/\a8<=du/\du<=cH/\du<=(a6 y1)/\fp (bQ y1)/\R
abbrev vr {A0:Type} (y0:List A0):=(ah,List.drop cX y0,())
abbrev sx (y0) (R:Prop):=aI .i64 (bM (pC y0))->R
abbrev mP {A0:Type} (y0:List A0):=List.drop 4 y0
abbrev ye (y0:List (Ty.u8).den):=kT (B9 y0) cH
def wg (T:List Int) (im:(List (Ty.u8).den)):dE:=λQ=>cW im (aN (dv im)->0<=min (aF im) gv/\min (aF im) gv<=(aF im)/\fp (List.length (B9 im))/\bu (ah<=cH/\fp (List.length (B9 im))/\(List.length (jm (B9 im) cH)<= 
 9223372036854775807->kc<=eU/\cY (λk=>mc (F5 (B9 im) cH=ah/\a8<=cH/\cH<=cH/\cH<=(↑(List.length (ye im)):Int)/\List.length (ye im)<=140737488355328/\(aI .i64 (bM (List.take 
 cX (ye im)))->k ((),(ah,List.drop cX (ye im),()),(bM (List.take cX (ye im)),ah,ah,ah,ah,ah,ah,ah,ah,ah,()),())))) λi=>aI .i64 dG/\cY (λk=>mg (i.2.1.1 
 =ah/\zM i.2.1.2.1 (sx i.2.1.2.1 (k ((),(vr i.2.1.2.1),(i.2.2.1.1,i.2.2.1.2.1,bM (pC i.2.1.2.1),i.2.2.1.2.2.2),()))))) λi=>aI .i64 dS/\cY (λk=>pR (i.2.1.1=ah/\zM i.2.1.2.1 (sx 
 i.2.1.2.1 (k ((),(vr i.2.1.2.1),(i.2.2.1.1,i.2.2.1.2.1,i.2.2.1.2.2.1,bM (pC i.2.1.2.1),i.2.2.1.2.2.2.2),()))))) λi=>aI .i64 ee/\cY (λk=>pT (i.2.1.1=ah/\zM i.2.1.2.1 (sx i.2.1.2.1 (k ((), 
 (vr i.2.1.2.1),(i.2.2.1.1,i.2.2.1.2.1,i.2.2.1.2.2.1,i.2.2.1.2.2.2.1,bM (pC i.2.1.2.1),i.2.2.1.2.2.2.2.2),()))))) λi=>aI .i64 eV/\cY (λk=>fV (l7 (i.2.1.1=ah/\zM i.2.1.2.1 (sx i.2.1.2.1 
 (k ((),(vr i.2.1.2.1),(i.2.2.1.1,i.2.2.1.2.1,i.2.2.1.2.2.1,i.2.2.1.2.2.2.1,i.2.2.1.2.2.2.2.1,bM (pC i.2.1.2.1),i.2.2.1.2.2.2.2.2.2),())))))) λi=>aI .i64 fZ/\cY (λk=>pV (i.2.1.1=ah/\zM 
 i.2.1.2.1 (sx i.2.1.2.1 (k ((),(vr i.2.1.2.1),(i.2.2.1.1,i.2.2.1.2.1,i.2.2.1.2.2.1,i.2.2.1.2.2.2.1,i.2.2.1.2.2.2.2.1,i.2.2.1.2.2.2.2.2.1,bM (pC i.2.1.2.1),i.2.2.1.2.2.2.2.2.2.2),()))))) λi=>aI .i64 ln/\ 
 cY (λk=>pW (i.2.1.1=ah/\zM i.2.1.2.1 (sx i.2.1.2.1 (k ((),(vr i.2.1.2.1),(i.2.2.1.1,i.2.2.1.2.1,i.2.2.1.2.2.1,i.2.2.1.2.2.2.1,i.2.2.1.2.2.2.2.1,i.2.2.1.2.2.2.2.2.1,i.2.2.1.2.2.2.2.2.2.1, 
 i.2.2.1.2.2.2.2.2.2.2.1,i.2.2.1.2.2.2.2.2.2.2.2.1,bM (pC i.2.1.2.1),()),()))))) λi=>pA (eX<=eU/\cY (λk=>ah<=ah/\ah< jL/\IC i.2.1.1 i.2.1.2.1 (aI .i64 (bM (List.take bj 
 i.2.1.2.1))->k ((),(ah,List.drop bj i.2.1.2.1,()),(i.2.2.1.1,bM (List.take bj i.2.1.2.1),i.2.2.1.2.2),()))) λi=>aI .i64 dG/\cY (λk=>ah<=ah+1/\ah+1< jL/\IC i.2.1.1 i.2.1.2.1 (aI 
 .i64 (bM (List.take bj i.2.1.2.1))->k ((),(ah,List.drop bj i.2.1.2.1,()),(i.2.2.1.1,i.2.2.1.2.1,i.2.2.1.2.2.1,i.2.2.1.2.2.2.1,i.2.2.1.2.2.2.2.1,i.2.2.1.2.2.2.2.2.1,i.2.2.1.2.2.2.2.2.2.1,bM (List.take bj 
 i.2.1.2.1),i.2.2.1.2.2.2.2.2.2.2.2),()))) λi=>aI .i64 dS/\cY (λk=>ah<=ah+1+1/\ah+1+1< jL/\IC i.2.1.1 i.2.1.2.1 (aI .i64 (bM (List.take bj i.2.1.2.1))->k ((),(ah,List.drop bj 
 i.2.1.2.1,()),(i.2.2.1.1,i.2.2.1.2.1,i.2.2.1.2.2.1,i.2.2.1.2.2.2.1,i.2.2.1.2.2.2.2.1,i.2.2.1.2.2.2.2.2.1,i.2.2.1.2.2.2.2.2.2.1,i.2.2.1.2.2.2.2.2.2.2.1,bM (List.take bj i.2.1.2.1),i.2.2.1.2.2.2.2.2.2.2.2.2),()))) λi=> 
 aI .i64 ee/\i.2.1.1=ah/\(aI .i64 (a6 i.2.1.2.1)->bu (zM i.2.1.2.1 (sx i.2.1.2.1 (aI .u32 (IntKind.wrap .u32 (bM (pC i.2.1.2.1)))->bu (aI .i64 (a6 (mP i.2.1.2.1))->bu (ah<=(a6 (mP 
 i.2.1.2.1))/\fp (List.length (mP i.2.1.2.1))/\(aN (List.length (jm (mP i.2.1.2.1) (a6 (mP i.2.1.2.1))))->aI .i64 (F5 (mP i.2.1.2.1) (a6 (mP i.2.1.2.1)))->br (F5 (mP i.2.1.2.1) (a6 (mP 
 i.2.1.2.1)) !=0) (Gc Q) (aN (dv im)->br (decide ((aF im)< gv)) (Gc Q) (br (kR (gk (jm (B9 im) cH)) (ByteArray.mk #[(76:UInt8),(77:UInt8),(76:UInt8),(65:UInt8)])) (aI .i64 (gv - (a6 
 i.2.1.2.1))/\ah<=gv - (a6 i.2.1.2.1)/\gv - (a6 i.2.1.2.1)<=(aF im)/\eG T (aI .u32 (cw T ah (List.take (aA (gv - (a6 i.2.1.2.1))) im))->br (IntKind.wrap .u32 (bM (pC i.2.1.2.1))== 
 cw T ah (List.take (aA (gv - (a6 i.2.1.2.1))) im)) (aN (dv im)->br (i.2.2.1.1==(aF im)) (rE i.2.2.1/\(∀ (z:Ty.den Ty.u8),List.Mem z (jm (mP i.2.1.2.1) (a6 (mP i.2.1.2.1)))->z=eC)/\Q 
 (SV.cZ [S1.agg [.k (aE i.2.2.1.1),.k (aE i.2.2.1.2.1),.k (aE i.2.2.1.2.2.1),.k (aE i.2.2.1.2.2.2.1),.k (aE i.2.2.1.2.2.2.2.1),.k (aE i.2.2.1.2.2.2.2.2.1),.k (aE i.2.2.1.2.2.2.2.2.2.1),.k (aE i.2.2.1.2.2.2.2.2.2.2.1), 
 .k (aE i.2.2.1.2.2.2.2.2.2.2.2.1),.k (aE i.2.2.1.2.2.2.2.2.2.2.2.2.1)],.c (.k bn)]) []) (Gc Q)) (Gc Q))) (Gc Q))))))))))))))
theorem zz:cM 58 NH:=fe<| okT λT=>kC λim=>iB λQ h=>by
 refine Wp.dL af5 jw ⟨[],[(9,⟨[],[(1,.cells 187 [.int .i64,.d .u8]),(2,.cells 86 [.int .i64,.int .i64,.int .i64,.int .i64,.int .i64,.int .i64,.int .i64,.int .i64,.int .i64,.int .i64])]⟩),(14,⟨[],[(1,.cells 187 [.int .i64,.d .u8]),(2,.cells 86 [.int .i64,.int .i64,.int .i64,.int .i64,.int .i64,.int .i64,.int .i64,.int .i64,.int .i64,.int .i64])]⟩)]⟩ Tryz.f58 (wg T im) (hold:=[92,105]) (unr:=[(6,9),(11,5)]) ?_;unfold wg ye mP jL sx l7 bu vr pA dv IC pC mc mg eG pR dG B9 pT zM fV bQ pV eU pW eC dS Gc ln ee fZ cW eV bn aE ah a8 du cH gv a6 aF fp aN bj bN eX cX kc;obtain ⟨hT,hl,s,r,hs,rfl,kE,h⟩:=h;obtain ⟨s0,s1,s2,s3,s4,s5,s6,s7,s8,s9,rfl,p1,p2,p3,p4,p5,p6,p7,n1,n2,n3,n4⟩:=hs.ints;have b0:0<=s0/\s0< 256 ^ 4:=⟨by have:=hs.p1;have:=hs.p2;have:=hs.p3;have:=hs.p4;have:=hs.p5;have:=hs.p6;have:=hs.p7;have:=hs.n1;have:=hs.n2;have:=hs.n3;have:=hs.n4;omega,by have:=hs.p1;have:=hs.p2;have:=hs.p3;have:=hs.p4;have:=hs.p5;have:=hs.p6;have:=hs.p7;have:=hs.n1;have:=hs.n2;have:=hs.n3;have:=hs.n4;show _< (4294967296:Int);omega⟩;have b2:0<=s2/\s2< 256 ^ 4:=⟨by have:=hs.p1;have:=hs.p2;have:=hs.p3;have:=hs.p4;have:=hs.p5;have:=hs.p6;have:=hs.p7;have:=hs.n1;have:=hs.n2;have:=hs.n3;have:=hs.n4;omega,by have:=hs.p1;have:=hs.p2;have:=hs.p3;have:=hs.p4;have:=hs.p5;have:=hs.p6;have:=hs.p7;have:=hs.n1;have:=hs.n2;have:=hs.n3;have:=hs.n4;show _< (4294967296:Int);omega⟩;have b3:0<=s3/\s3< 256 ^ 4:=⟨by have:=hs.p1;have:=hs.p2;have:=hs.p3;have:=hs.p4;have:=hs.p5;have:=hs.p6;have:=hs.p7;have:=hs.n1;have:=hs.n2;have:=hs.n3;have:=hs.n4;omega,by have:=hs.p1;have:=hs.p2;have:=hs.p3;have:=hs.p4;have:=hs.p5;have:=hs.p6;have:=hs.p7;have:=hs.n1;have:=hs.n2;have:=hs.n3;have:=hs.n4;show _< (4294967296:Int);omega⟩;have b4:0<=s4/\s4< 256 ^ 4:=⟨by have:=hs.p1;have:=hs.p2;have:=hs.p3;have:=hs.p4;have:=hs.p5;have:=hs.p6;have:=hs.p7;have:=hs.n1;have:=hs.n2;have:=hs.n3;have:=hs.n4;omega,by have:=hs.p1;have:=hs.p2;have:=hs.p3;have:=hs.p4;have:=hs.p5;have:=hs.p6;have:=hs.p7;have:=hs.n1;have:=hs.n2;have:=hs.n3;have:=hs.n4;show _< (4294967296:Int);omega⟩;have b5:0<=s5/\s5< 256 ^ 4:=⟨by have:=hs.p1;have:=hs.p2;have:=hs.p3;have:=hs.p4;have:=hs.p5;have:=hs.p6;have:=hs.p7;have:=hs.n1;have:=hs.n2;have:=hs.n3;have:=hs.n4;omega,by have:=hs.p1;have:=hs.p2;have:=hs.p3;have:=hs.p4;have:=hs.p5;have:=hs.p6;have:=hs.p7;have:=hs.n1;have:=hs.n2;have:=hs.n3;have:=hs.n4;show _< (4294967296:Int);omega⟩;have b6:0<=s6/\s6< 256 ^ 4:=⟨by have:=hs.p1;have:=hs.p2;have:=hs.p3;have:=hs.p4;have:=hs.p5;have:=hs.p6;have:=hs.p7;have:=hs.n1;have:=hs.n2;have:=hs.n3;have:=hs.n4;omega,by have:=hs.p1;have:=hs.p2;have:=hs.p3;have:=hs.p4;have:=hs.p5;have:=hs.p6;have:=hs.p7;have:=hs.n1;have:=hs.n2;have:=hs.n3;have:=hs.n4;show _< (4294967296:Int);omega⟩;have b9:0<=s9/\s9< 256 ^ 4:=⟨by have:=hs.p1;have:=hs.p2;have:=hs.p3;have:=hs.p4;have:=hs.p5;have:=hs.p6;have:=hs.p7;have:=hs.n1;have:=hs.n2;have:=hs.n3;have:=hs.n4;omega,by have:=hs.p1;have:=hs.p2;have:=hs.p3;have:=hs.p4;have:=hs.p5;have:=hs.p6;have:=hs.p7;have:=hs.n1;have:=hs.n2;have:=hs.n3;have:=hs.n4;show _< (4294967296:Int);omega⟩;have b1:0<=s1/\s1< 256 ^ 2:=⟨by have:=hs.p1;have:=hs.p2;have:=hs.p3;have:=hs.p4;have:=hs.p5;have:=hs.p6;have:=hs.p7;have:=hs.n1;have:=hs.n2;have:=hs.n3;have:=hs.n4;omega,by have:=hs.p1;have:=hs.p2;have:=hs.p3;have:=hs.p4;have:=hs.p5;have:=hs.p6;have:=hs.p7;have:=hs.n1;have:=hs.n2;have:=hs.n3;have:=hs.n4;show _< (65536:Int);omega⟩;have b7:0<=s7/\s7< 256 ^ 2:=⟨by have:=hs.p1;have:=hs.p2;have:=hs.p3;have:=hs.p4;have:=hs.p5;have:=hs.p6;have:=hs.p7;have:=hs.n1;have:=hs.n2;have:=hs.n3;have:=hs.n4;omega,by have:=hs.p1;have:=hs.p2;have:=hs.p3;have:=hs.p4;have:=hs.p5;have:=hs.p6;have:=hs.p7;have:=hs.n1;have:=hs.n2;have:=hs.n3;have:=hs.n4;show _< (65536:Int);omega⟩;have b8:0<=s8/\s8< 256 ^ 2:=⟨by have:=hs.p1;have:=hs.p2;have:=hs.p3;have:=hs.p4;have:=hs.p5;have:=hs.p6;have:=hs.p7;have:=hs.n1;have:=hs.n2;have:=hs.n3;have:=hs.n4;omega,by have:=hs.p1;have:=hs.p2;have:=hs.p3;have:=hs.p4;have:=hs.p5;have:=hs.p6;have:=hs.p7;have:=hs.n1;have:=hs.n2;have:=hs.n3;have:=hs.n4;show _< (65536:Int);omega⟩;have hE:=oq T (s0,s1,s2,s3,s4,s5,s6,s7,s8,s9,());have him:(fS T (s0,s1,s2,s3,s4,s5,s6,s7,s8,s9,())++r).length=64+r.length:=by rw [af,hE]
 obtain ⟨r0,M3⟩:∃ r0,r0=aJ 4 s0.toNat++(aJ 4 s2.toNat++(aJ 4 s3.toNat++(aJ 4 s4.toNat++(aJ 4 s5.toNat++(aJ 4 s6.toNat++(aJ 4 s9.toNat++(aJ 2 s1.toNat++(aJ 2 s7.toNat++(aJ 2 s8.toNat++(aJ 4 (cw T 0 (fT (s0,s1,s2,s3,s4,s5,s6,s7,s8,s9,()))).toNat++au 22 0)))))))))):=⟨_,rfl⟩;have DR:fS T (s0,s1,s2,s3,s4,s5,s6,s7,s8,s9,())=([76,77,76,65]:List UInt8)++r0:=by rw [M3];unfold fS fT;simp only [aH]
 have apP:r0.length=60:=by have:=congrArg List.length DR;rw [hE,af] at this;simp only [aq,aL] at this;omega
 obtain ⟨d1,d2,d3⟩:=H8 (x:=([76,77,76,65]:List UInt8)) (y:=r0) (n:=4) rfl;have P0:min ((fS T (s0,s1,s2,s3,s4,s5,s6,s7,s8,s9,())++r).length:Int) 64=64:=by rw [him];omega
 have htk:List.take (aA 64) (fS T (s0,s1,s2,s3,s4,s5,s6,s7,s8,s9,())++r)=fS T (s0,s1,s2,s3,s4,s5,s6,s7,s8,s9,()):=List.take_left' hE;rw [P0,htk,him];rw [DR,d1,d2,d3];refine λ_ _=>⟨by decide,by omega,by rw [<-DR,hE];decide,rfl,by decide,by rw [<-DR,hE];decide,λ_=>⟨by decide,?_⟩⟩;subst M3;have hz:(au 22 (0:UInt8)).length=22:=aT;rw [iH,iK,eh b0.1 b0.2];refine cY.intro (λi=>i.2.1.1=0/\i.2.1.2.1=aJ 4 s2.toNat++(aJ 4 s3.toNat++(aJ 4 s4.toNat++(aJ 4 s5.toNat++(aJ 4 s6.toNat++(aJ 4 s9.toNat++(aJ 2 s1.toNat++(aJ 2 s7.toNat++(aJ 2 s8.toNat++(aJ 4 (cw T 0 (fT (s0,s1,s2,s3,s4,s5,s6,s7,s8,s9,()))).toNat++au 22 0)))))))))/\i.2.2.1=(s0,0,0,0,0,0,0,0,0,0,())) ⟨by decide,by decide,by trivial,by decide,by decide,by simp only [af,aC,hz];decide,by simp only [af,aC,hz];decide,λ_=>⟨rfl,rfl,rfl⟩⟩ ?_;rintro ⟨_,⟨c,x,_⟩,y,_⟩ ⟨e1,e2,e3⟩;dsimp only at e1 e2 e3;subst e1 e2 e3;dsimp only;refine ⟨by unfold aI;decide,?_⟩;simp only [iH,iK,eh b2.1 b2.2];refine cY.intro (λi=>i.2.1.1=0/\i.2.1.2.1=aJ 4 s3.toNat++(aJ 4 s4.toNat++(aJ 4 s5.toNat++(aJ 4 s6.toNat++(aJ 4 s9.toNat++(aJ 2 s1.toNat++(aJ 2 s7.toNat++(aJ 2 s8.toNat++(aJ 4 (cw T 0 (fT (s0,s1,s2,s3,s4,s5,s6,s7,s8,s9,()))).toNat++au 22 0))))))))/\i.2.2.1=(s0,0,s2,0,0,0,0,0,0,0,())) ⟨by decide,by decide,by trivial,by decide,by decide,by simp only [af,aC,hz];decide,by simp only [af,aC,hz];decide,λ_=>⟨rfl,rfl,rfl⟩⟩ ?_;rintro ⟨_,⟨c,x,_⟩,y,_⟩ ⟨e1,e2,e3⟩;dsimp only at e1 e2 e3;subst e1 e2 e3;dsimp only;refine ⟨by unfold aI;decide,?_⟩;simp only [iH,iK,eh b3.1 b3.2];refine cY.intro (λi=>i.2.1.1=0/\i.2.1.2.1=aJ 4 s4.toNat++(aJ 4 s5.toNat++(aJ 4 s6.toNat++(aJ 4 s9.toNat++(aJ 2 s1.toNat++(aJ 2 s7.toNat++(aJ 2 s8.toNat++(aJ 4 (cw T 0 (fT (s0,s1,s2,s3,s4,s5,s6,s7,s8,s9,()))).toNat++au 22 0)))))))/\i.2.2.1=(s0,0,s2,s3,0,0,0,0,0,0,())) ⟨by decide,by decide,by trivial,by decide,by decide,by simp only [af,aC,hz];decide,by simp only [af,aC,hz];decide,λ_=>⟨rfl,rfl,rfl⟩⟩ ?_;rintro ⟨_,⟨c,x,_⟩,y,_⟩ ⟨e1,e2,e3⟩;dsimp only at e1 e2 e3;subst e1 e2 e3;dsimp only;refine ⟨by unfold aI;decide,?_⟩;simp only [iH,iK,eh b4.1 b4.2];refine cY.intro (λi=>i.2.1.1=0/\i.2.1.2.1=aJ 4 s5.toNat++(aJ 4 s6.toNat++(aJ 4 s9.toNat++(aJ 2 s1.toNat++(aJ 2 s7.toNat++(aJ 2 s8.toNat++(aJ 4 (cw T 0 (fT (s0,s1,s2,s3,s4,s5,s6,s7,s8,s9,()))).toNat++au 22 0))))))/\i.2.2.1=(s0,0,s2,s3,s4,0,0,0,0,0,())) ⟨by decide,by decide,by trivial,by decide,by decide,by simp only [af,aC,hz];decide,by simp only [af,aC,hz];decide,λ_=>⟨rfl,rfl,rfl⟩⟩ ?_;rintro ⟨_,⟨c,x,_⟩,y,_⟩ ⟨e1,e2,e3⟩;dsimp only at e1 e2 e3;subst e1 e2 e3;dsimp only;refine ⟨by unfold aI;decide,?_⟩;simp only [iH,iK,eh b5.1 b5.2];refine cY.intro (λi=>i.2.1.1=0/\i.2.1.2.1=aJ 4 s6.toNat++(aJ 4 s9.toNat++(aJ 2 s1.toNat++(aJ 2 s7.toNat++(aJ 2 s8.toNat++(aJ 4 (cw T 0 (fT (s0,s1,s2,s3,s4,s5,s6,s7,s8,s9,()))).toNat++au 22 0)))))/\i.2.2.1=(s0,0,s2,s3,s4,s5,0,0,0,0,())) ⟨by decide,by decide,by trivial,by decide,by decide,by simp only [af,aC,hz];decide,by simp only [af,aC,hz];decide,λ_=>⟨rfl,rfl,rfl⟩⟩ ?_;rintro ⟨_,⟨c,x,_⟩,y,_⟩ ⟨e1,e2,e3⟩;dsimp only at e1 e2 e3;subst e1 e2 e3;dsimp only;refine ⟨by unfold aI;decide,?_⟩;simp only [iH,iK,eh b6.1 b6.2];refine cY.intro (λi=>i.2.1.1=0/\i.2.1.2.1=aJ 4 s9.toNat++(aJ 2 s1.toNat++(aJ 2 s7.toNat++(aJ 2 s8.toNat++(aJ 4 (cw T 0 (fT (s0,s1,s2,s3,s4,s5,s6,s7,s8,s9,()))).toNat++au 22 0))))/\i.2.2.1=(s0,0,s2,s3,s4,s5,s6,0,0,0,())) ⟨by decide,by decide,by trivial,by decide,by decide,by simp only [af,aC,hz];decide,by simp only [af,aC,hz];decide,λ_=>⟨rfl,rfl,rfl⟩⟩ ?_;rintro ⟨_,⟨c,x,_⟩,y,_⟩ ⟨e1,e2,e3⟩;dsimp only at e1 e2 e3;subst e1 e2 e3;dsimp only;refine ⟨by unfold aI;decide,?_⟩;simp only [iH,iK,eh b9.1 b9.2];refine cY.intro (λi=>i.2.1.1=0/\i.2.1.2.1=aJ 2 s1.toNat++(aJ 2 s7.toNat++(aJ 2 s8.toNat++(aJ 4 (cw T 0 (fT (s0,s1,s2,s3,s4,s5,s6,s7,s8,s9,()))).toNat++au 22 0)))/\i.2.2.1=(s0,0,s2,s3,s4,s5,s6,0,0,s9,())) ⟨by decide,by decide,by trivial,by decide,by decide,by simp only [af,aC,hz];decide,by simp only [af,aC,hz];decide,λ_=>⟨rfl,rfl,rfl⟩⟩ ?_;rintro ⟨_,⟨c,x,_⟩,y,_⟩ ⟨e1,e2,e3⟩;dsimp only at e1 e2 e3;subst e1 e2 e3;dsimp only;refine ⟨by unfold aI;decide,by decide,?_⟩;simp only [iH,iK,eh b1.1 b1.2];refine cY.intro (λi=>i.2.1.1=0/\i.2.1.2.1=aJ 2 s7.toNat++(aJ 2 s8.toNat++(aJ 4 (cw T 0 (fT (s0,s1,s2,s3,s4,s5,s6,s7,s8,s9,()))).toNat++au 22 0))/\i.2.2.1=(s0,s1,s2,s3,s4,s5,s6,0,0,s9,())) ⟨by decide,by decide,by trivial,by decide,by decide,by simp only [af,aC,hz];decide,by simp only [af,aC,hz];decide,λ_=>⟨rfl,rfl,rfl⟩⟩ ?_;rintro ⟨_,⟨c,x,_⟩,y,_⟩ ⟨e1,e2,e3⟩;dsimp only at e1 e2 e3;subst e1 e2 e3;dsimp only;refine ⟨by unfold aI;decide,?_⟩;simp only [iH,iK,eh b7.1 b7.2];refine cY.intro (λi=>i.2.1.1=0/\i.2.1.2.1=aJ 2 s8.toNat++(aJ 4 (cw T 0 (fT (s0,s1,s2,s3,s4,s5,s6,s7,s8,s9,()))).toNat++au 22 0)/\i.2.2.1=(s0,s1,s2,s3,s4,s5,s6,s7,0,s9,())) ⟨by decide,by decide,by trivial,by decide,by decide,by simp only [af,aC,hz];decide,by simp only [af,aC,hz];decide,λ_=>⟨rfl,rfl,rfl⟩⟩ ?_;rintro ⟨_,⟨c,x,_⟩,y,_⟩ ⟨e1,e2,e3⟩;dsimp only at e1 e2 e3;subst e1 e2 e3;dsimp only;refine ⟨by unfold aI;decide,?_⟩;simp only [iH,iK,eh b8.1 b8.2];refine cY.intro (λi=>i.2.1.1=0/\i.2.1.2.1=aJ 4 (cw T 0 (fT (s0,s1,s2,s3,s4,s5,s6,s7,s8,s9,()))).toNat++au 22 0/\i.2.2.1=(s0,s1,s2,s3,s4,s5,s6,s7,s8,s9,())) ⟨by decide,by decide,by trivial,by decide,by decide,by simp only [af,aC,hz];decide,by simp only [af,aC,hz];decide,λ_=>⟨rfl,rfl,rfl⟩⟩ ?_;rintro ⟨_,⟨c,x,_⟩,y,_⟩ ⟨e1,e2,e3⟩;dsimp only at e1 e2 e3;subst e1 e2 e3;dsimp only;refine ⟨by unfold aI;decide,?_⟩;have hc:=yY T 0 (fT (s0,s1,s2,s3,s4,s5,s6,s7,s8,s9,()));have hl4:(aJ 4 (cw T 0 (fT (s0,s1,s2,s3,s4,s5,s6,s7,s8,s9,()))).toNat++au 22 (0:UInt8)).length=26:=by rw [af,aC,hz]
 have hB:=u9 (s0,s1,s2,s3,s4,s5,s6,s7,s8,s9,());have htB:List.take (aA (64 - ((26:Nat):Int))) (fS T (s0,s1,s2,s3,s4,s5,s6,s7,s8,s9,())++r)=fT (s0,s1,s2,s3,s4,s5,s6,s7,s8,s9,()):=by
  unfold fS;rw [aH];exact List.take_left' hB
 obtain ⟨z1,z2⟩:=ahO (au 22 (0:UInt8));simp only [iH,iK,hl4,<-DR,htB,afn hc.1 hc.2,z1,z2,ak1,beq_self_eq_true];refine ⟨by trivial,λ_=>⟨by trivial,by decide,by decide,by decide,by decide,λ_ _=>⟨by trivial,λ_=>⟨by trivial,by omega,by rw [hz];decide,λ_ _=>aw (λhq=>by cases hq) (λ_=>λ_=>aw (λhq=>by have hq:=of_decide_eq_true hq;omega) (λ_=>aw (λ_=>⟨by unfold aI;decide,by decide,by omega,hT,λ_=>aw (λ_=>λ_=>aw (λ_=>⟨hs,λz hz=>List.eq_of_mem_replicate hz,h⟩) (λhq=>?_)) (λhq=>by cases hq)⟩) (λhq=>by cases hq)))⟩⟩⟩⟩;rw [him] at kE;exact absurd kE (by simpa using hq)
end Go.Proofs

namespace Go.Proofs
open Go.Shelf
def Tryz.MR:Go.Shelf.Ren:=⟨fun| 137=>181| 217=>225| 266=>241| n=>n,fun| 9=>9| 5=>5| 3=>3| n=>n,fun| n=>n⟩
theorem Tryz.adE:Go.Proofs.Lays.n137 ck Tryz.MR:= {
 mixed:=by kernel_rfl
 f137:=Tryz.func181.trans (congrArg some (by kernel_rfl))
 f217:=Tryz.func225.trans (congrArg some (by kernel_rfl))
 f266:=Tryz.func241.trans (congrArg some (by kernel_rfl))
 t3:=o5
 a3:=Tryz.isAgg3
 z3:=Tryz.sizeOf3
 v3:=Tryz.zeroValue3
 t5:=Tryz.underlying5
 a5:=Tryz.isAgg5
 z5:=Tryz.sizeOf5
 v5:=Tryz.zeroValue5
 t9:=Tryz.underlying9
 a9:=Tryz.isAgg9
 z9:=Tryz.sizeOf9
 v9:=Tryz.zeroValue9}
open Go.RowKit in
theorem Tryz.strings_IndexByte (s:ByteArray) (c:Int) (w:World):
  Calls ck 181 #[.string s,.int .u8 c] w λe w'=>e= .returned (.int .i64 (Lib.indexByte s.data.toList c.toNat.toUInt8))/\w'=w:=Any.strings_IndexByte Tryz.adE s c w
def Tryz.MQ:Go.Shelf.Ren:=⟨fun| 189=>125| 125=>122| 257=>172| 128=>168| 129=>169| 294=>211| 295=>212| 296=>213| 297=>214| 298=>215| 299=>216| 216=>131| 300=>217| 301=>218| 328=>232| 329=>207| 330=>208| 331=>233| 332=>234| 215=>179| 343=>244| n=>n,fun| 28=>29| 3=>3| 46=>148| 0=>0| 51=>107| 53=>267| 4=>4| 183=>260| 182=>259| 131=>104| 5=>5| 9=>9| 218=>303| 222=>130| 228=>325| 229=>163| n=>n,fun| n=>n⟩
theorem Tryz.SE:Go.Proofs.Lays.n189 ck Tryz.MQ:= {
 mixed:=by kernel_rfl
 f125:=Tryz.func122.trans (congrArg some (by kernel_rfl))
 f128:=Tryz.func168.trans (congrArg some (by kernel_rfl))
 f129:=Tryz.func169.trans (congrArg some (by kernel_rfl))
 f189:=Tryz.func125.trans (congrArg some (by kernel_rfl))
 f215:=Tryz.func179.trans (congrArg some (by kernel_rfl))
 f216:=Tryz.func131.trans (congrArg some (by kernel_rfl))
 f257:=Tryz.func172.trans (congrArg some (by kernel_rfl))
 f294:=Tryz.func211.trans (congrArg some (by kernel_rfl))
 f295:=Tryz.func212.trans (congrArg some (by kernel_rfl))
 f296:=Tryz.func213.trans (congrArg some (by kernel_rfl))
 f297:=Tryz.func214.trans (congrArg some (by kernel_rfl))
 f298:=Tryz.func215.trans (congrArg some (by kernel_rfl))
 f299:=Tryz.func216.trans (congrArg some (by kernel_rfl))
 f300:=Tryz.func217.trans (congrArg some (by kernel_rfl))
 f301:=Tryz.func218.trans (congrArg some (by kernel_rfl))
 f328:=Tryz.func232.trans (congrArg some (by kernel_rfl))
 f329:=Tryz.func207.trans (congrArg some (by kernel_rfl))
 f330:=Tryz.func208.trans (congrArg some (by kernel_rfl))
 f331:=Tryz.func233.trans (congrArg some (by kernel_rfl))
 f332:=Tryz.func234.trans (congrArg some (by kernel_rfl))
 f343:=Tryz.func244.trans (congrArg some (by kernel_rfl))
 t0:=Tryz.underlying0
 a0:=Tryz.isAgg0
 z0:=Tryz.sizeOf0
 v0:=Tryz.zeroValue0
 t3:=o5
 a3:=Tryz.isAgg3
 z3:=Tryz.sizeOf3
 v3:=Tryz.zeroValue3
 t4:=Tryz.underlying4
 a4:=Tryz.isAgg4
 z4:=Tryz.sizeOf4
 v4:=Tryz.zeroValue4
 t5:=Tryz.underlying5
 a5:=Tryz.isAgg5
 z5:=Tryz.sizeOf5
 v5:=Tryz.zeroValue5
 t9:=Tryz.underlying9
 a9:=Tryz.isAgg9
 z9:=Tryz.sizeOf9
 v9:=Tryz.zeroValue9
 t28:=Tryz.underlying29
 a28:=Tryz.isAgg29
 z28:=Tryz.sizeOf29
 v28:=Tryz.zeroValue29
 t46:=Tryz.underlying148
 a46:=Tryz.isAgg148
 z46:=Tryz.sizeOf148
 v46:=Tryz.zeroValue148
 t51:=Tryz.underlying107
 a51:=Tryz.isAgg107
 z51:=Tryz.sizeOf107
 v51:=Tryz.zeroValue107
 t53:=Tryz.underlying267
 a53:=Tryz.isAgg267
 z53:=Tryz.sizeOf267
 v53:=Tryz.zeroValue267
 t131:=Tryz.underlying104
 a131:=Tryz.isAgg104
 z131:=Tryz.sizeOf104
 v131:=Tryz.zeroValue104
 t182:=Tryz.underlying259
 a182:=Tryz.isAgg259
 z182:=Tryz.sizeOf259
 v182:=Tryz.zeroValue259
 t183:=Tryz.underlying260
 a183:=Tryz.isAgg260
 z183:=Tryz.sizeOf260
 v183:=Tryz.zeroValue260
 t218:=Tryz.underlying303
 a218:=Tryz.isAgg303
 z218:=Tryz.sizeOf303
 v218:=Tryz.zeroValue303
 t222:=Tryz.underlying130
 a222:=Tryz.isAgg130
 z222:=Tryz.sizeOf130
 v222:=Tryz.zeroValue130
 t228:=Tryz.underlying325
 a228:=Tryz.isAgg325
 z228:=Tryz.sizeOf325
 v228:=Tryz.zeroValue325
 t229:=Tryz.underlying163
 a229:=Tryz.isAgg163
 z229:=Tryz.sizeOf163
 v229:=Tryz.zeroValue163}
open Go.Sort Go.RowKit in
theorem Tryz.slices_Sort_int (pg off cap:Nat) (zs:List Int) (w:World) (hH:Holds (Value.int .i64) w pg off zs.toArray) (hblk:pg< w.heap.size) (kE:zs.length< 4611686018427387904):
  Calls ck 125 #[.slice (some ⟨pg,off,none⟩) zs.length cap] w λe w'=>
   e= .returned (.tuple #[])/\∃ n os,w'=grow (putRow (Value.int .i64) (Sort.ahead w n) pg off (zs.mergeSort λx y=>decide (x<=y)).toArray) os:=Any.slices_Sort_int Tryz.SE pg off cap zs w hH hblk kE
open Go.RowKit Go.Sort in
theorem Tryz.slices_Sort_int_none (p:Option Addr) (cap:Nat) (w:World):
  Calls ck 125 #[.slice p 0 cap] w λe w'=>e= .returned (.tuple #[])/\w'=w:=Any.slices_Sort_int_none Tryz.SE p cap w
end Go.Proofs

namespace Go.Lm
open Go
abbrev bR:Ty:=.pair .VF (.pair (.int .i64) (.pair (.int .i64) .unit))
abbrev eH:Ty:=.pair (.int .i64) (.pair (.int .i64) (.pair (.int .i64) (.pair (.int .i64) (.pair (.int .i64) (.pair (.int .i64) (.pair (.int .i64) (.pair (.int .i64) (.pair (.int .i64) (.pair (.int .i64) (.pair .str .unit))))))))))
abbrev wK (F:List (Int×eH.den)):HO:=.map 3 .int eH F
structure DM (mo ui gi lk xa:Int):Prop where
 q1:0<=mo/\mo<=511
 q2:0<=ui/\ui<=2047
 q3:0<=gi/\gi<=2047
 q4:1<=lk/\lk<=1024
 q5:0<=xa/\xa<=4294967295
structure Ud (st sz:Int):Prop where
 r1:0<=st/\st<=4294967295
 r2:0<=sz/\sz<=1048576
structure zx (st sz fr off:Int):Prop where
 r1:0<=st/\st<=4294967295
 r2:0<=sz/\sz<=4096
 r3:0<=fr/\fr<=1024
 r4:0<=off/\off<=127
 tail:(0< fr↔0< sz % 128)/\(0< sz % 128\/off=0)
structure zw (z:ByteArray):Prop where
 len:0< z.size/\z.size<=200
 nul:∀ x∈z.data.toList,x≠0
def ZK (k mo ui gi lk xa:Int):List UInt8:=aJ 1 k.toNat++(aJ 2 mo.toNat++(aJ 2 ui.toNat++(aJ 2 gi.toNat++(aJ 2 lk.toNat++aJ 4 xa.toNat))))
theorem xp (k mo ui gi lk xa:Int):(ZK k mo ui gi lk xa).length=13:=by unfold ZK;simp only [af,aC]
def O1 (mo ui gi xa st sz:Int):List UInt8:=ZK 1 mo ui gi 1 xa++(aJ 4 st.toNat++aJ 4 sz.toNat)
def O0 (mo ui gi lk xa st sz fr off:Int):List UInt8:=ZK 2 mo ui gi lk xa++(aJ 4 st.toNat++(aJ 2 sz.toNat++(aJ 2 fr.toNat++aJ 1 off.toNat)))
def Mg (mo ui gi lk xa:Int) (z:ByteArray):List UInt8:=ZK 3 mo ui gi lk xa++(ax z.size::z.data.toList)
theorem kD {x m:Int} {P R:Prop} (h0:0<=x) (h1:x<=m) (h:R):br (decide (x< 0)) P (br (decide (x>m)) P R):=
 aw (λhc=>absurd (of_decide_eq_true hc) (by omega)) (λ_=>aw (λhc=>absurd (of_decide_eq_true hc) (by omega)) (λ_=>h))
theorem Qb (k a b c d e f g h i:Int) (z:ByteArray):(!(k==k&& (a==a&& (b==b&& (c==c&& (d==d&& (e==e&& (f==f&& (g==g&& (h==h&& (i==i&& (kR z z&& true))))))))))))=false:=by
 simp [kR]
theorem ahX {l:List UInt8} (h:∀ x∈l,x≠0):decide (Lib.indexByte l 0< 0)=true:=by
 rw [tZ];simp only [bG,List.any_eq_false,beq_iff_eq];exact h
theorem LF (n x:Nat):List.take n (aJ n x)=aJ n x:=aV (by rw [aC];exact az _)
theorem Ns (n x:Nat):List.drop n (aJ n x)= []:=List.drop_of_length_le (by rw [aC];exact az _)
theorem zg (z:ByteArray):gk z.data.toList=z:=rfl
structure oX (i:eH.den):Prop where
 cm:DM i.2.1 i.2.2.1 i.2.2.2.1 i.2.2.2.2.1 i.2.2.2.2.2.1
 or:(i.1=1/\Ud i.2.2.2.2.2.2.1 i.2.2.2.2.2.2.2.1/\i.2.2.2.2.1=1/\i.2.2.2.2.2.2.2.2.1=0/\i.2.2.2.2.2.2.2.2.2.1=0/\i.2.2.2.2.2.2.2.2.2.2.1=⟨#[]⟩)\/
  (i.1=2/\zx i.2.2.2.2.2.2.1 i.2.2.2.2.2.2.2.1 i.2.2.2.2.2.2.2.2.1 i.2.2.2.2.2.2.2.2.2.1/\i.2.2.2.2.2.2.2.2.2.2.1=⟨#[]⟩)\/
  (i.1=3/\zw i.2.2.2.2.2.2.2.2.2.2.1/\i.2.2.2.2.2.2.1=0/\i.2.2.2.2.2.2.2.1=0/\i.2.2.2.2.2.2.2.2.1=0/\i.2.2.2.2.2.2.2.2.2.1=0)
def fM (i:eH.den):List UInt8:=
 if i.1=1 then O1 i.2.1 i.2.2.1 i.2.2.2.1 i.2.2.2.2.2.1 i.2.2.2.2.2.2.1 i.2.2.2.2.2.2.2.1
 else if i.1=2 then O0 i.2.1 i.2.2.1 i.2.2.2.1 i.2.2.2.2.1 i.2.2.2.2.2.1 i.2.2.2.2.2.2.1 i.2.2.2.2.2.2.2.1 i.2.2.2.2.2.2.2.2.1 i.2.2.2.2.2.2.2.2.2.1
 else Mg i.2.1 i.2.2.1 i.2.2.2.1 i.2.2.2.2.1 i.2.2.2.2.2.1 i.2.2.2.2.2.2.2.2.2.2.1
theorem pn.ok {fs:List (List UInt8)} {R:List UInt8} {o n:Nat} {z:List UInt8} {nx e:Int} (h:pn fs R o n z nx e) (hl:o+n<=R.length):z=(R.drop o).take n/\nx=(dV fs (o+n):Nat)/\e=0:=by
 rcases h.or with ⟨_,h1,h2,h3⟩| ⟨h1,_⟩;exact ⟨h1,h2,h3⟩;omega
def va:List bR.den->Int
 | []=>0
 | (_,n,_)::r=>n+va r
theorem LI:∀ (l:List bR.den) (x:bR.den),va (l++ [x])=va l+x.2.1
 | [],(_,n,_)=>Int.add_comm (n:Int) 0
 | (_,m,_)::l,x=>by
  have:=LI l x;show m+va (l++ [x])=m+va l+x.2.1;rw [this];exact (Int.add_assoc m (va l) x.2.1).symm
theorem UC {l:List bR.den} {j:Int} (h0:0<=j) (h1:j< (l.length:Int)):va (l.take (j+1).toNat)=va (l.take j.toNat)+(aB bR l j).2.1:=by
 rw [ixT h0 h1,LI]
theorem acX {n s:Int} {L:Nat} (h:0<=n/\n<=4) (k:0<=s/\s<=4*L):0<=n+s/\n+s<=4*((L+1:Nat):Int):=by omega
theorem RS:∀ {l:List bR.den} (j:Nat),(∀ x∈l,0<=(x.2.1:Int)/\(x.2.1:Int)<=4)->0<=va (l.take j)/\va (l.take j)<=4*l.length
 | [],j,_=>by simp [va]
 | x::r,0,_=>by simp only [List.take_zero,va,aq];omega
 | (f,n,m)::r,j+1,h=>by
  have h2:=RS (l:=r) j λy hy=>h y (aG _ hy);simp only [List.take_succ_cons,va,aq];exact acX (h _ aS) h2
theorem R8 {i:eH.den} (h:oX i):(fM i).length=if i.1=1 then 21 else if i.1=2 then 22 else 14+i.2.2.2.2.2.2.2.2.2.2.1.size:=by
 unfold fM;rcases h.or with ⟨e,_⟩| ⟨e,_⟩| ⟨e,_⟩;rw [if_pos e,if_pos e];unfold O1;simp only [af,xp,aC];rw [if_neg (by rw [e];decide),if_pos e,if_neg (by rw [e];decide),if_pos e];unfold O0;simp only [af,xp,aC]
 .rw [if_neg (by rw [e];decide),if_neg (by rw [e];decide),if_neg (by rw [e];decide),if_neg (by rw [e];decide)];unfold Mg;simp only [af,xp,aq,<-gU];omega
theorem Mf {i:eH.den} (h:oX i):∃ t,fM i=ax i.1.toNat::t:=by
 unfold fM;rcases h.or with ⟨e,_⟩| ⟨e,_⟩| ⟨e,_⟩;rw [if_pos e,e];exact ⟨_,rfl⟩;rw [if_neg (by rw [e];decide),if_pos e,e];exact ⟨_,rfl⟩;rw [if_neg (by rw [e];decide),if_neg (by rw [e];decide),e];exact ⟨_,rfl⟩
theorem adh {i:eH.den} (e:i.1=3):(fM i)[13]?=some (ax i.2.2.2.2.2.2.2.2.2.2.1.size):=by
 unfold fM;rw [if_neg (by rw [e];decide),if_neg (by rw [e];decide)];unfold Mg;rw [aZ (by rw [xp];exact az _),xp];rfl
end Go.Lm

namespace Go.Proofs
open Go Go.Lm Go.RowKit
set_option maxRecDepth 1000000
def aeh:List bR.den:=[(182,2,511,()),(183,2,2047,()),(184,2,2047,()),(185,2,1024,()),(186,4,4294967295,())]
def oO (k:Int):List bR.den:=if k=2 then [(187,4,4294967295,()),(188,2,4096,()),(189,2,1024,()),(190,1,127,())] else if k=1 then [(187,4,4294967295,()),(188,4,1048576,())] else []
def gV:List (Nat×Ty):=(227,bR)::(80,eH)::jw
def ame:Ct:=cP<| cO λH Q=>match H with
 | [.cells 80 [.k (.int .i64 k0),.k (.int .i64 mo),.k (.int .i64 ui),.k (.int .i64 gi),.k (.int .i64 lk),.k (.int .i64 xa),.k (.int .i64 st),.k (.int .i64 sz),.k (.int .i64 fr),.k (.int .i64 off),.k (.string tg)]]=>Q (.c (.p 0 1)) [.cells 80 [.k (.int .i64 k0),.k (.int .i64 mo),.k (.int .i64 ui),.k (.int .i64 gi),.k (.int .i64 lk),.k (.int .i64 xa),.k (.int .i64 st),.k (.int .i64 sz),.k (.int .i64 fr),.k (.int .i64 off),.k (.string tg)]]
 | _=>False
def abw:=af5.add zz
def Xy (k0 mo ui gi lk xa st sz fr off:Int) (tg:ByteArray):dE:=λQ=>Q (SV.v (S1.c (.p 0 1))) [.cells 80 [.k (aE k0),.k (aE mo),.k (aE ui),.k (aE gi),.k (aE lk),.k (aE xa),.k (aE st),.k (aE sz),.k (aE fr),.k (aE off),.k (.string tg)]]
theorem akC:cM 182 ame:=fe<| rK<| rM λH Q h=>by
 split at h;rotate_left;cases h;rename_i k0 mo ui gi lk xa st sz fr off tg;refine Wp.dL abw gV ⟨[],[]⟩ Tryz.f182 (Xy k0 mo ui gi lk xa st sz fr off tg) ?_;unfold Xy aE;exact h
def amd:Ct:=cP<| cO λH Q=>match H with
 | [.cells 80 [.k (.int .i64 k0),.k (.int .i64 mo),.k (.int .i64 ui),.k (.int .i64 gi),.k (.int .i64 lk),.k (.int .i64 xa),.k (.int .i64 st),.k (.int .i64 sz),.k (.int .i64 fr),.k (.int .i64 off),.k (.string tg)]]=>Q (.c (.p 0 2)) [.cells 80 [.k (.int .i64 k0),.k (.int .i64 mo),.k (.int .i64 ui),.k (.int .i64 gi),.k (.int .i64 lk),.k (.int .i64 xa),.k (.int .i64 st),.k (.int .i64 sz),.k (.int .i64 fr),.k (.int .i64 off),.k (.string tg)]]
 | _=>False
def abv:=abw.add akC
def Xx (k0 mo ui gi lk xa st sz fr off:Int) (tg:ByteArray):dE:=λQ=>Q (SV.v (S1.c (.p 0 2))) [.cells 80 [.k (aE k0),.k (aE mo),.k (aE ui),.k (aE gi),.k (aE lk),.k (aE xa),.k (aE st),.k (aE sz),.k (aE fr),.k (aE off),.k (.string tg)]]
theorem akB:cM 183 amd:=fe<| rK<| rM λH Q h=>by
 split at h;rotate_left;cases h;rename_i k0 mo ui gi lk xa st sz fr off tg;refine Wp.dL abv gV ⟨[],[]⟩ Tryz.f183 (Xx k0 mo ui gi lk xa st sz fr off tg) ?_;unfold Xx aE;exact h
def amc:Ct:=cP<| cO λH Q=>match H with
 | [.cells 80 [.k (.int .i64 k0),.k (.int .i64 mo),.k (.int .i64 ui),.k (.int .i64 gi),.k (.int .i64 lk),.k (.int .i64 xa),.k (.int .i64 st),.k (.int .i64 sz),.k (.int .i64 fr),.k (.int .i64 off),.k (.string tg)]]=>Q (.c (.p 0 3)) [.cells 80 [.k (.int .i64 k0),.k (.int .i64 mo),.k (.int .i64 ui),.k (.int .i64 gi),.k (.int .i64 lk),.k (.int .i64 xa),.k (.int .i64 st),.k (.int .i64 sz),.k (.int .i64 fr),.k (.int .i64 off),.k (.string tg)]]
 | _=>False
def abu:=abv.add akB
def Xw (k0 mo ui gi lk xa st sz fr off:Int) (tg:ByteArray):dE:=λQ=>Q (SV.v (S1.c (.p 0 3))) [.cells 80 [.k (aE k0),.k (aE mo),.k (aE ui),.k (aE gi),.k (aE lk),.k (aE xa),.k (aE st),.k (aE sz),.k (aE fr),.k (aE off),.k (.string tg)]]
theorem akA:cM 184 amc:=fe<| rK<| rM λH Q h=>by
 split at h;rotate_left;cases h;rename_i k0 mo ui gi lk xa st sz fr off tg;refine Wp.dL abu gV ⟨[],[]⟩ Tryz.f184 (Xw k0 mo ui gi lk xa st sz fr off tg) ?_;unfold Xw aE;exact h
def amb:Ct:=cP<| cO λH Q=>match H with
 | [.cells 80 [.k (.int .i64 k0),.k (.int .i64 mo),.k (.int .i64 ui),.k (.int .i64 gi),.k (.int .i64 lk),.k (.int .i64 xa),.k (.int .i64 st),.k (.int .i64 sz),.k (.int .i64 fr),.k (.int .i64 off),.k (.string tg)]]=>Q (.c (.p 0 4)) [.cells 80 [.k (.int .i64 k0),.k (.int .i64 mo),.k (.int .i64 ui),.k (.int .i64 gi),.k (.int .i64 lk),.k (.int .i64 xa),.k (.int .i64 st),.k (.int .i64 sz),.k (.int .i64 fr),.k (.int .i64 off),.k (.string tg)]]
 | _=>False
def abt:=abu.add akA
def Xv (k0 mo ui gi lk xa st sz fr off:Int) (tg:ByteArray):dE:=λQ=>Q (SV.v (S1.c (.p 0 4))) [.cells 80 [.k (aE k0),.k (aE mo),.k (aE ui),.k (aE gi),.k (aE lk),.k (aE xa),.k (aE st),.k (aE sz),.k (aE fr),.k (aE off),.k (.string tg)]]
theorem akz:cM 185 amb:=fe<| rK<| rM λH Q h=>by
 split at h;rotate_left;cases h;rename_i k0 mo ui gi lk xa st sz fr off tg;refine Wp.dL abt gV ⟨[],[]⟩ Tryz.f185 (Xv k0 mo ui gi lk xa st sz fr off tg) ?_;unfold Xv aE;exact h
def ama:Ct:=cP<| cO λH Q=>match H with
 | [.cells 80 [.k (.int .i64 k0),.k (.int .i64 mo),.k (.int .i64 ui),.k (.int .i64 gi),.k (.int .i64 lk),.k (.int .i64 xa),.k (.int .i64 st),.k (.int .i64 sz),.k (.int .i64 fr),.k (.int .i64 off),.k (.string tg)]]=>Q (.c (.p 0 5)) [.cells 80 [.k (.int .i64 k0),.k (.int .i64 mo),.k (.int .i64 ui),.k (.int .i64 gi),.k (.int .i64 lk),.k (.int .i64 xa),.k (.int .i64 st),.k (.int .i64 sz),.k (.int .i64 fr),.k (.int .i64 off),.k (.string tg)]]
 | _=>False
def abr:=abt.add akz
def Xu (k0 mo ui gi lk xa st sz fr off:Int) (tg:ByteArray):dE:=λQ=>Q (SV.v (S1.c (.p 0 5))) [.cells 80 [.k (aE k0),.k (aE mo),.k (aE ui),.k (aE gi),.k (aE lk),.k (aE xa),.k (aE st),.k (aE sz),.k (aE fr),.k (aE off),.k (.string tg)]]
theorem aky:cM 186 ama:=fe<| rK<| rM λH Q h=>by
 split at h;rotate_left;cases h;rename_i k0 mo ui gi lk xa st sz fr off tg;refine Wp.dL abr gV ⟨[],[]⟩ Tryz.f186 (Xu k0 mo ui gi lk xa st sz fr off tg) ?_;unfold Xu aE;exact h
def al9:Ct:=cP<| cO λH Q=>match H with
 | [.cells 80 [.k (.int .i64 k0),.k (.int .i64 mo),.k (.int .i64 ui),.k (.int .i64 gi),.k (.int .i64 lk),.k (.int .i64 xa),.k (.int .i64 st),.k (.int .i64 sz),.k (.int .i64 fr),.k (.int .i64 off),.k (.string tg)]]=>Q (.c (.p 0 6)) [.cells 80 [.k (.int .i64 k0),.k (.int .i64 mo),.k (.int .i64 ui),.k (.int .i64 gi),.k (.int .i64 lk),.k (.int .i64 xa),.k (.int .i64 st),.k (.int .i64 sz),.k (.int .i64 fr),.k (.int .i64 off),.k (.string tg)]]
 | _=>False
def abq:=abr.add aky
def Xt (k0 mo ui gi lk xa st sz fr off:Int) (tg:ByteArray):dE:=λQ=>Q (SV.v (S1.c (.p 0 6))) [.cells 80 [.k (aE k0),.k (aE mo),.k (aE ui),.k (aE gi),.k (aE lk),.k (aE xa),.k (aE st),.k (aE sz),.k (aE fr),.k (aE off),.k (.string tg)]]
theorem akx:cM 187 al9:=fe<| rK<| rM λH Q h=>by
 split at h;rotate_left;cases h;rename_i k0 mo ui gi lk xa st sz fr off tg;refine Wp.dL abq gV ⟨[],[]⟩ Tryz.f187 (Xt k0 mo ui gi lk xa st sz fr off tg) ?_;unfold Xt aE;exact h
def al8:Ct:=cP<| cO λH Q=>match H with
 | [.cells 80 [.k (.int .i64 k0),.k (.int .i64 mo),.k (.int .i64 ui),.k (.int .i64 gi),.k (.int .i64 lk),.k (.int .i64 xa),.k (.int .i64 st),.k (.int .i64 sz),.k (.int .i64 fr),.k (.int .i64 off),.k (.string tg)]]=>Q (.c (.p 0 7)) [.cells 80 [.k (.int .i64 k0),.k (.int .i64 mo),.k (.int .i64 ui),.k (.int .i64 gi),.k (.int .i64 lk),.k (.int .i64 xa),.k (.int .i64 st),.k (.int .i64 sz),.k (.int .i64 fr),.k (.int .i64 off),.k (.string tg)]]
 | _=>False
def abp:=abq.add akx
def Xs (k0 mo ui gi lk xa st sz fr off:Int) (tg:ByteArray):dE:=λQ=>Q (SV.v (S1.c (.p 0 7))) [.cells 80 [.k (aE k0),.k (aE mo),.k (aE ui),.k (aE gi),.k (aE lk),.k (aE xa),.k (aE st),.k (aE sz),.k (aE fr),.k (aE off),.k (.string tg)]]
theorem akw:cM 188 al8:=fe<| rK<| rM λH Q h=>by
 split at h;rotate_left;cases h;rename_i k0 mo ui gi lk xa st sz fr off tg;refine Wp.dL abp gV ⟨[],[]⟩ Tryz.f188 (Xs k0 mo ui gi lk xa st sz fr off tg) ?_;unfold Xs aE;exact h
def al7:Ct:=cP<| cO λH Q=>match H with
 | [.cells 80 [.k (.int .i64 k0),.k (.int .i64 mo),.k (.int .i64 ui),.k (.int .i64 gi),.k (.int .i64 lk),.k (.int .i64 xa),.k (.int .i64 st),.k (.int .i64 sz),.k (.int .i64 fr),.k (.int .i64 off),.k (.string tg)]]=>Q (.c (.p 0 8)) [.cells 80 [.k (.int .i64 k0),.k (.int .i64 mo),.k (.int .i64 ui),.k (.int .i64 gi),.k (.int .i64 lk),.k (.int .i64 xa),.k (.int .i64 st),.k (.int .i64 sz),.k (.int .i64 fr),.k (.int .i64 off),.k (.string tg)]]
 | _=>False
def abo:=abp.add akw
def Xr (k0 mo ui gi lk xa st sz fr off:Int) (tg:ByteArray):dE:=λQ=>Q (SV.v (S1.c (.p 0 8))) [.cells 80 [.k (aE k0),.k (aE mo),.k (aE ui),.k (aE gi),.k (aE lk),.k (aE xa),.k (aE st),.k (aE sz),.k (aE fr),.k (aE off),.k (.string tg)]]
theorem akv:cM 189 al7:=fe<| rK<| rM λH Q h=>by
 split at h;rotate_left;cases h;rename_i k0 mo ui gi lk xa st sz fr off tg;refine Wp.dL abo gV ⟨[],[]⟩ Tryz.f189 (Xr k0 mo ui gi lk xa st sz fr off tg) ?_;unfold Xr aE;exact h
def al6:Ct:=cP<| cO λH Q=>match H with
 | [.cells 80 [.k (.int .i64 k0),.k (.int .i64 mo),.k (.int .i64 ui),.k (.int .i64 gi),.k (.int .i64 lk),.k (.int .i64 xa),.k (.int .i64 st),.k (.int .i64 sz),.k (.int .i64 fr),.k (.int .i64 off),.k (.string tg)]]=>Q (.c (.p 0 9)) [.cells 80 [.k (.int .i64 k0),.k (.int .i64 mo),.k (.int .i64 ui),.k (.int .i64 gi),.k (.int .i64 lk),.k (.int .i64 xa),.k (.int .i64 st),.k (.int .i64 sz),.k (.int .i64 fr),.k (.int .i64 off),.k (.string tg)]]
 | _=>False
def abn:=abo.add akv
def Xq (k0 mo ui gi lk xa st sz fr off:Int) (tg:ByteArray):dE:=λQ=>Q (SV.v (S1.c (.p 0 9))) [.cells 80 [.k (aE k0),.k (aE mo),.k (aE ui),.k (aE gi),.k (aE lk),.k (aE xa),.k (aE st),.k (aE sz),.k (aE fr),.k (aE off),.k (.string tg)]]
theorem aku:cM 190 al6:=fe<| rK<| rM λH Q h=>by
 split at h;rotate_left;cases h;rename_i k0 mo ui gi lk xa st sz fr off tg;refine Wp.dL abn gV ⟨[],[]⟩ Tryz.f190 (Xq k0 mo ui gi lk xa st sz fr off tg) ?_;unfold Xq aE;exact h
def aal:Ct:=c0 λQ=>Q (.c (.o 0)) [.sl 227 bR aeh]
def abm:=abn.add aku
def Fv:dE:=
 λQ=>Q gd [.sl 227 bR [((182:Nat),du,(511:Int),()),((183:Nat),du,(2047:Int),()),((184:Nat),du,(2047:Int),()),((185:Nat),du,(1024:Int),()),((186:Nat),cH,(4294967295:Int),())]]
theorem Xc:cM 135 aal:=fe<| iB λQ h=>by
 refine Wp.dL abm gV ⟨[],[]⟩ Tryz.f135 Fv ?_;unfold Fv gd du cH;exact h
def aab:Ct:=cI λk=>c0 λQ=>Q (.c (.o 0)) [.sl 227 bR (oO k)]
def abl:=abm.add Xc
def Fm (k:Int):dE:=λQ=>aI .i64 k->br (k==2) (Q gd [.sl 227 bR [((187:Nat),cH,(4294967295:Int),()),((188:Nat),du,(4096:Int),()),((189:Nat),du,(1024:Int),()),((190:Nat),a8,(127:Int),())]]) (br (k== 
 1) (Q gd [.sl 227 bR [((187:Nat),cH,(4294967295:Int),()),((188:Nat),cH,(1048576:Int),())]]) (Q gf []))
theorem wc:cM 136 aab:=fe<| nK λk=>iB λQ h=>by
 refine Wp.IK (t:=227) (e:=bR) ?_;refine Wp.dL abl gV ⟨[],[]⟩ Tryz.f136 (Fm k) ?_;unfold Fm gd gf cA a8 du cH;unfold oO at h;refine λ_=>aw (λhc=>.inl ?_) (λhc=>aw (λhd=>.inl ?_) (λhd=>.inr ⟨rfl,?_⟩));rw [if_pos (eq_of_beq hc)] at h;exact h;rw [if_neg (by simpa using hc),if_pos (eq_of_beq hd)] at h;exact h;rw [if_neg (by simpa using hc),if_neg (by simpa using hd)] at h;exact h
def NI:Ct
 | [.v (.c (.k (.string s))),.v (.c (.k (.int .u8 c)))],[],Q=>Q (.int (Lib.indexByte s.data.toList c.toNat.toUInt8)) []
 | _,_,_=>False
theorem Kb:cM 181 NI:=by
 intro args H Q h;unfold NI at h;split at h
 .rename_i s c;refine Wp.Sl (λE g w vs m hv=>?_) h;obtain ⟨u,v,rfl,⟨rfl,hs⟩,⟨rfl,_⟩⟩:=nR hv;refine (Ho.of (Tryz.strings_IndexByte s c w)).mono λx w' ⟨h1,h2⟩=>⟨?_,by rw [h2];exact Le.refl w⟩;rw [h1];refine dB ?_;have:=Jg s.data.toList c.toNat.toUInt8;have hs':s.data.toList.length<=9223372036854775807:=by rw [<-gU];exact hs
  unfold aI;omega
 .cases h
def NX:Ct
 | [.v (.agg [.k (.int .i64 1),.k (.int .i64 mo),.k (.int .i64 ui),.k (.int .i64 gi),.k (.int .i64 lk),.k (.int .i64 xa),.k (.int .i64 st),.k (.int .i64 sz),.k (.int .i64 fr),.k (.int .i64 off),.k (.string tg)])],[],Q=>DM mo ui gi lk xa/\Ud st sz/\lk=1/\fr=0/\off=0/\tg=⟨#[]⟩/\Q (.bool true) []
 | _,_,_=>False
def abk:=(abl.add wc).add Kb
abbrev uH:=aeh++oO a8
abbrev dC (y0:ByteArray) (R:Prop):=aN (ByteArray.size y0)->R
abbrev nt:=aB bR uH ah
abbrev nr:=aB bR uH dG
abbrev nq:=aB bR uH dS
abbrev nk:=aB bR uH ee
abbrev nj:=aB bR uH eV
abbrev ni:=aB bR uH fZ
abbrev nh:=aB bR uH ln
abbrev gY:=ByteArray.mk #[]
def Fl (mo ui gi lk xa st sz fr off:Int) (tg:ByteArray):dE:=λQ=>aI .i64 1->cU mo ui gi (cU lk xa st (cU sz fr off (dC tg ((168:Nat)<=cC/\kc<=eU/\(kc<=eU->mc (mc (Ty.ok bR nt->br (dj mo) (bq Q) (br 
 (decide (mo>nt.2.2.1)) (bq Q) (aI .i64 dG/\mg (mg (Ty.ok bR nr->br (dj ui) (bq Q) (br (decide (ui>nr.2.2.1)) (bq Q) (aI .i64 dS/\pR (pR (Ty.ok bR nq->br (dj gi) (bq Q) 
 (br (decide (gi>nq.2.2.1)) (bq Q) (aI .i64 ee/\pT (pT (Ty.ok bR nk->br (dj lk) (bq Q) (br (decide (lk>nk.2.2.1)) (bq Q) (aI .i64 eV/\fV (l7 (fV (l7 (Ty.ok bR nj->br 
 (dj xa) (bq Q) (br (decide (xa>nj.2.2.1)) (bq Q) (aI .i64 fZ/\pV (pV (Ty.ok bR ni->br (dj st) (bq Q) (br (decide (st>ni.2.2.1)) (bq Q) (aI .i64 ln/\pW (pW (Ty.ok bR nh-> 
 br (dj sz) (bq Q) (br (decide (sz>nh.2.2.1)) (bq Q) (pA (br (!(a8==1&& (mo==mo&& (ui==ui&& (gi==gi&& (lk==lk&& (xa==xa&& (st==st&& (sz==sz&& (ah==fr&& (ah==off&& (kR gY tg&& 
 true)))))))))))) (bq Q) (br (decide (lk< 1)) (bq Q) (Q (.v (.c (.k (.bool (lk==1))))) []))))))))))))))))))))))))))))))))))))))
theorem Kt:cM 134 NX:=by
 intro args H Q h;unfold NX at h;split at h;rotate_left;cases h;rename_i mo ui gi lk xa st sz fr off tg;refine Wp.dL abk gV ⟨[],[]⟩ Tryz.f134 (Fl mo ui gi lk xa st sz fr off tg) (unr:=[(5,11)]) ?_;unfold Fl gY l7 pA nh ni nj nk nq nr nt mc dC dj mg bq pR dG pT fV pV eU pW dS ln cC ee fZ eV uH cU jF ah a8 aN kc;obtain ⟨fh,hk,rfl,rfl,rfl,rfl,h⟩:=h;refine λ_ _ _ _ _ _ _ _ _ _ _=>⟨by decide,by decide,λ_=>?_⟩;refine ⟨by decide,by decide,by decide,by decide,λ_=>kD fh.q1.1 fh.q1.2 ⟨by unfold aI;decide,?_⟩⟩;refine ⟨by decide,by decide,by decide,by decide,λ_=>kD fh.q2.1 fh.q2.2 ⟨by unfold aI;decide,?_⟩⟩;refine ⟨by decide,by decide,by decide,by decide,λ_=>kD fh.q3.1 fh.q3.2 ⟨by unfold aI;decide,?_⟩⟩;refine ⟨by decide,by decide,by decide,by decide,λ_=>kD (⟨by decide,by decide⟩:0<=(1:Int)/\(1:Int)<=1024).1 (⟨by decide,by decide⟩:0<=(1:Int)/\(1:Int)<=1024).2 ⟨by unfold aI;decide,?_⟩⟩;refine ⟨by decide,by decide,by decide,by decide,λ_=>kD fh.q5.1 fh.q5.2 ⟨by unfold aI;decide,?_⟩⟩;refine ⟨by decide,by decide,by decide,by decide,λ_=>kD hk.r1.1 hk.r1.2 ⟨by unfold aI;decide,?_⟩⟩;refine ⟨by decide,by decide,by decide,by decide,λ_=>kD hk.r2.1 hk.r2.2 ⟨by unfold aI;decide,?_⟩⟩;rw [Qb];refine aw (λhc=>by cases hc) (λ_=>aw (λhc=>absurd (of_decide_eq_true hc) (by have:=fh.q4.1;omega)) (λ_=>?_));exact h
def NW:Ct
 | [.v (.agg [.k (.int .i64 2),.k (.int .i64 mo),.k (.int .i64 ui),.k (.int .i64 gi),.k (.int .i64 lk),.k (.int .i64 xa),.k (.int .i64 st),.k (.int .i64 sz),.k (.int .i64 fr),.k (.int .i64 off),.k (.string tg)])],[],Q=>DM mo ui gi lk xa/\zx st sz fr off/\tg=⟨#[]⟩/\Q (.bool true) []
 | _,_,_=>False
def abj:=abk.add Kt
abbrev rC:=aeh++oO du
abbrev Ga (R:Prop):=aI .i64 (ah+1+1+1+1+1+1+1+1)/\ah<=ah+1+1+1+1+1+1+1+1/\ah+1+1+1+1+1+1+1+1< (↑iz:Int)/\ah<=ah+1+1+1+1+1+1+1+1/\ah+1+1+1+1+1+1+1+1< (↑iz:Int)/\R
abbrev F9 (R:Prop):=aI .i64 (ah+1+1+1+1+1+1+1)/\ah<=ah+1+1+1+1+1+1+1/\ah+1+1+1+1+1+1+1< (↑iz:Int)/\ah<=ah+1+1+1+1+1+1+1/\ah+1+1+1+1+1+1+1< (↑iz:Int)/\R
abbrev rr:=aB bR rC (ah+1+1+1+1+1+1+1+1)
abbrev wH (R:Prop):=ah<=ah+1+1+1+1+1+1/\ah+1+1+1+1+1+1< (↑iz:Int)/\R
abbrev rq:=aB bR rC (ah+1+1+1+1+1+1+1)
abbrev wG (R:Prop):=ah<=ah+1+1+1+1+1/\ah+1+1+1+1+1< (↑iz:Int)/\R
abbrev wF (R:Prop):=ah<=ah+1+1+1/\ah+1+1+1< (↑iz:Int)/\R
abbrev yI (R:Prop):=aI .i64 dS/\ah<=ah+1+1/\ah+1+1< (↑iz:Int)/\ah<=ah+1+1/\ah+1+1< (↑iz:Int)/\R
abbrev yG (R:Prop):=aI .i64 dG/\ah<=ah+1/\ah+1< (↑iz:Int)/\ah<=ah+1/\ah+1< (↑iz:Int)/\R
abbrev yB (R:Prop):=iz<=eU->ah<=ah/\ah< (↑iz:Int)/\ah<=ah/\ah< (↑iz:Int)/\R
abbrev ng:=aB bR rC ah
abbrev nf:=aB bR rC dG
abbrev nc:=aB bR rC dS
abbrev na:=aB bR rC ee
abbrev mZ:=aB bR rC eV
abbrev mY:=aB bR rC fZ
abbrev mX:=aB bR rC ln
abbrev yk (R:Prop):=aI .i64 (ah+1+1+1+1+1+1+1+1+1)/\R
def Fk (mo ui gi lk xa st sz fr off:Int) (tg:ByteArray):dE:=λQ=>aI .i64 2->cU mo ui gi (cU lk xa st (cU sz fr off (dC tg ((216:Nat)<=cC/\iz<=eU/\(yB (Ty.ok bR ng->br (dj mo) (bq Q) (br (decide (mo>ng.2.2.1)) 
 (bq Q) (yG (Ty.ok bR nf->br (dj ui) (bq Q) (br (decide (ui>nf.2.2.1)) (bq Q) (yI (Ty.ok bR nc->br (dj gi) (bq Q) (br (decide (gi>nc.2.2.1)) (bq Q) (aI .i64 ee/\wF (wF 
 (Ty.ok bR na->br (dj lk) (bq Q) (br (decide (lk>na.2.2.1)) (bq Q) (aI .i64 eV/\fV (ah+1+1+1+1< (↑iz:Int)/\fV (ah+1+1+1+1< (↑iz:Int)/\(Ty.ok bR mZ->br (dj xa) 
 (bq Q) (br (decide (xa>mZ.2.2.1)) (bq Q) (aI .i64 fZ/\wG (wG (Ty.ok bR mY->br (dj st) (bq Q) (br (decide (st>mY.2.2.1)) (bq Q) (aI .i64 ln/\wH (wH (Ty.ok bR mX->br (dj 
 sz) (bq Q) (br (decide (sz>mX.2.2.1)) (bq Q) (F9 (Ty.ok bR rq->br (dj fr) (bq Q) (br (decide (fr>rq.2.2.1)) (bq Q) (Ga (Ty.ok bR rr->br (dj off) (bq Q) (br (decide (off>rr.2.2.1)) 
 (bq Q) (yk (br (!(du==2&& (mo==mo&& (ui==ui&& (gi==gi&& (lk==lk&& (xa==xa&& (st==st&& (sz==sz&& (fr==fr&& (off==off&& (kR gY tg&& true)))))))))))) (bq Q) (br (decide (lk< 1)) (bq Q) 
 (bI≠ah/\(aI .i64 (Int.tmod sz bI)->br (decide (fr>0)==decide (Int.tmod sz bI>ah)) (br (decide (Int.tmod sz bI>ah)) (Q oZ []) (Q (.v (.c (.k (.bool (off==0))))) [])) (bq 
 Q))))))))))))))))))))))))))))))))))))))))))
theorem Ks:cM 134 NW:=by
 intro args H Q h;unfold NW at h;split at h;rotate_left;cases h;rename_i mo ui gi lk xa st sz fr off tg;refine Wp.dL abj gV ⟨[],[]⟩ Tryz.f134 (Fk mo ui gi lk xa st sz fr off tg) (unr:=[(5,11)]) ?_;unfold Fk yk gY mX mY mZ na nc nf ng yB yG dC dj yI bq wF dG wG rq wH rr fV F9 Ga eU dS ln cC ee fZ eV cU rC jF oZ ah bI du aN iz;obtain ⟨fh,hk,rfl,h⟩:=h;refine λ_ _ _ _ _ _ _ _ _ _ _=>⟨by decide,by decide,λ_=>?_⟩;refine ⟨by decide,by decide,by decide,by decide,λ_=>kD fh.q1.1 fh.q1.2 ⟨by unfold aI;decide,?_⟩⟩;refine ⟨by decide,by decide,by decide,by decide,λ_=>kD fh.q2.1 fh.q2.2 ⟨by unfold aI;decide,?_⟩⟩;refine ⟨by decide,by decide,by decide,by decide,λ_=>kD fh.q3.1 fh.q3.2 ⟨by unfold aI;decide,?_⟩⟩;refine ⟨by decide,by decide,by decide,by decide,λ_=>kD (⟨by have:=fh.q4.1;omega,fh.q4.2⟩:0<=(lk:Int)/\(lk:Int)<=1024).1 (⟨by have:=fh.q4.1;omega,fh.q4.2⟩:0<=(lk:Int)/\(lk:Int)<=1024).2 ⟨by unfold aI;decide,?_⟩⟩;refine ⟨by decide,by decide,by decide,by decide,λ_=>kD fh.q5.1 fh.q5.2 ⟨by unfold aI;decide,?_⟩⟩;refine ⟨by decide,by decide,by decide,by decide,λ_=>kD hk.r1.1 hk.r1.2 ⟨by unfold aI;decide,?_⟩⟩;refine ⟨by decide,by decide,by decide,by decide,λ_=>kD hk.r2.1 hk.r2.2 ⟨by unfold aI;decide,?_⟩⟩;refine ⟨by decide,by decide,by decide,by decide,λ_=>kD hk.r3.1 hk.r3.2 ⟨by unfold aI;decide,?_⟩⟩;refine ⟨by decide,by decide,by decide,by decide,λ_=>kD hk.r4.1 hk.r4.2 ⟨by unfold aI;decide,?_⟩⟩;rw [Qb];refine aw (λhc=>by cases hc) (λ_=>aw (λhc=>absurd (of_decide_eq_true hc) (by have:=fh.q4.1;omega)) (λ_=>?_));have ht:=hk.tail;have h0:=hk.r2.1;rw [Int.tmod_eq_emod_of_nonneg h0];refine ⟨by decide,λ_=>aw (λ_=>aw (λ_=>h) (λhd=>?_)) (λhc=>?_)⟩
 .have hd:=of_decide_eq_false hd;have:off=0:=by rcases ht.2 with a| a;exact absurd a (by omega);exact a
  subst this;exact h
 .refine absurd ?_ (by rw [hc];decide:¬((decide (fr>0)==decide (sz % 128>0))=true));rw [beq_iff_eq];exact decide_eq_decide.2 ht.1
def NV:Ct
 | [.v (.agg [.k (.int .i64 3),.k (.int .i64 mo),.k (.int .i64 ui),.k (.int .i64 gi),.k (.int .i64 lk),.k (.int .i64 xa),.k (.int .i64 st),.k (.int .i64 sz),.k (.int .i64 fr),.k (.int .i64 off),.k (.string tg)])],[],Q=>DM mo ui gi lk xa/\zw tg/\st=0/\sz=0/\fr=0/\off=0/\Q (.bool true) []
 | _,_,_=>False
def abi:=abj.add Ks
abbrev zO:=aeh++oO lp
abbrev wE (R:Prop):=ah<=ah+1+1+1/\ah+1+1+1< (↑ke:Int)/\R
abbrev yH (R:Prop):=aI .i64 dS/\ah<=ah+1+1/\ah+1+1< (↑ke:Int)/\ah<=ah+1+1/\ah+1+1< (↑ke:Int)/\R
abbrev yF (R:Prop):=aI .i64 dG/\ah<=ah+1/\ah+1< (↑ke:Int)/\ah<=ah+1/\ah+1< (↑ke:Int)/\R
abbrev yA (R:Prop):=ke<=eU->ah<=ah/\ah< (↑ke:Int)/\ah<=ah/\ah< (↑ke:Int)/\R
abbrev Iz (y0) (y1:SV->List HO->Prop):=aI .i64 (Lib.indexByte y0 (Nat.toUInt8 bC))->y1 (.v (.c (.k (.bool (decide (Lib.indexByte y0 (Nat.toUInt8 bC)< 0)))))) []
abbrev mW:=aB bR zO ah
abbrev mV:=aB bR zO dG
abbrev mU:=aB bR zO dS
abbrev mT:=aB bR zO ee
abbrev mS:=aB bR zO eV
def Fj (mo ui gi lk xa st sz fr off:Int) (tg:ByteArray):dE:=λQ=>aI .i64 3->cU mo ui gi (cU lk xa st (cU sz fr off (dC tg ((120:Nat)<=cC/\ke<=eU/\(yA (Ty.ok bR mW->br (dj mo) (bq Q) (br (decide (mo>mW.2.2.1)) 
 (bq Q) (yF (Ty.ok bR mV->br (dj ui) (bq Q) (br (decide (ui>mV.2.2.1)) (bq Q) (yH (Ty.ok bR mU->br (dj gi) (bq Q) (br (decide (gi>mU.2.2.1)) (bq Q) (aI .i64 ee/\wE (wE 
 (Ty.ok bR mT->br (dj lk) (bq Q) (br (decide (lk>mT.2.2.1)) (bq Q) (aI .i64 eV/\fV (ah+1+1+1+1< (↑ke:Int)/\fV (ah+1+1+1+1< (↑ke:Int)/\(Ty.ok bR mS->br (dj xa) 
 (bq Q) (br (decide (xa>mS.2.2.1)) (bq Q) (aI .i64 fZ/\br (!(lp==3&& (mo==mo&& (ui==ui&& (gi==gi&& (lk==lk&& (xa==xa&& (ah==st&& (ah==sz&& (ah==fr&& (ah==off&& (kR tg tg&& 
 true)))))))))))) (bq Q) (br (decide (lk< 1)) (bq Q) (br (decide ((iN tg)>ah)) (br (decide ((iN tg)<=(200:Int))) (Iz tg.data.toList Q) (bq Q)) (bq Q))))))))))))))))))))))))))
theorem Kr:cM 134 NV:=by
 intro args H Q h;unfold NV at h;split at h;rotate_left;cases h;rename_i mo ui gi lk xa st sz fr off tg;refine Wp.dL abi gV ⟨[],[]⟩ Tryz.f134 (Fj mo ui gi lk xa st sz fr off tg) (unr:=[(5,11)]) ?_;unfold Fj mS mT mU mV mW Iz yA yF dC dj yH bq wE dG iN fV eU dS zO cC ee fZ eV cU jF ah lp aN bC ke;obtain ⟨fh,hk,rfl,rfl,rfl,rfl,h⟩:=h;refine λ_ _ _ _ _ _ _ _ _ _ _=>⟨by decide,by decide,λ_=>?_⟩;refine ⟨by decide,by decide,by decide,by decide,λ_=>kD fh.q1.1 fh.q1.2 ⟨by unfold aI;decide,?_⟩⟩;refine ⟨by decide,by decide,by decide,by decide,λ_=>kD fh.q2.1 fh.q2.2 ⟨by unfold aI;decide,?_⟩⟩;refine ⟨by decide,by decide,by decide,by decide,λ_=>kD fh.q3.1 fh.q3.2 ⟨by unfold aI;decide,?_⟩⟩;refine ⟨by decide,by decide,by decide,by decide,λ_=>kD (⟨by have:=fh.q4.1;omega,fh.q4.2⟩:0<=(lk:Int)/\(lk:Int)<=1024).1 (⟨by have:=fh.q4.1;omega,fh.q4.2⟩:0<=(lk:Int)/\(lk:Int)<=1024).2 ⟨by unfold aI;decide,?_⟩⟩;refine ⟨by decide,by decide,by decide,by decide,λ_=>kD fh.q5.1 fh.q5.2 ⟨by unfold aI;decide,?_⟩⟩;rw [Qb];refine aw (λhc=>by cases hc) (λ_=>aw (λhc=>absurd (of_decide_eq_true hc) (by have:=fh.q4.1;omega)) (λ_=>?_));refine aw (λ_=>aw (λ_=>λ_=>?_) (λhc=>absurd (of_decide_eq_false hc) (by have:=hk.len;omega))) (λhc=>absurd (of_decide_eq_false hc) (by have:=hk.len;omega));rw [show decide (Lib.indexByte tg.data.toList (Nat.toUInt8 0)< 0)=true from ahX hk.nul];exact h
def TD:Ct
 | [.v (.agg ci)],[],Q=>(match eH.of ci with
  | some (i,[])=>oX i/\Q (.bool true) []
  | _=>False)
 | _,_,_=>False
theorem acJ:cM 134 TD:=by
 intro args H Q h;unfold TD at h;split at h;rotate_left;cases h;rename_i ci;split at h;rotate_left;cases h;rename_i i hi;refine Wp.said (args':=[.v (.agg (eH.cells i))]) (λE g=>bE.dd (IM hi) (λ_ h=>h)) ?_;clear hi;obtain ⟨k0,mo,ui,gi,lk,xa,st,sz,fr,off,tg,⟨⟩⟩:=i;obtain ⟨⟨hc,ho⟩,h⟩:=h;rcases ho with ⟨e,ho⟩| ⟨e,ho⟩| ⟨e,ho⟩
 .have e:k0=1:=e;subst e;exact Kt _ _ _ ⟨hc,ho.1,ho.2.1,ho.2.2.1,ho.2.2.2.1,ho.2.2.2.2,h⟩
 .have e:k0=2:=e;subst e;exact Ks _ _ _ ⟨hc,ho.1,ho.2,h⟩
 .have e:k0=3:=e;subst e;exact Kr _ _ _ ⟨hc,ho.1,ho.2.1,ho.2.2.1,ho.2.2.2.1,ho.2.2.2.2,h⟩
def NU:Ct
 | [.v (.agg [.k (.int .i64 1),.k (.int .i64 mo),.k (.int .i64 ui),.k (.int .i64 gi),.k (.int .i64 lk),.k (.int .i64 xa),.k (.int .i64 st),.k (.int .i64 sz),.k (.int .i64 fr),.k (.int .i64 off),.k (.string tg)])],[],Q=>DM mo ui gi lk xa/\Ud st sz/\lk=1/\fr=0/\off=0/\tg=⟨#[]⟩/\Q (.cZ [.c (.d .u8 (O1 mo ui gi xa st sz)),.c (.k (.int .i64 0))]) []
 | _,_,_=>False
def abh:=(abi.add Kr).add acJ
abbrev Sb (y0:Int) (y1:Int) (y2:Int) (y3:Int) (y4:Int) (y5:Int) (y6:Int):=[]++aJ bJ bJ++aJ bj (bc y0)++aJ bj (bc y1)++aJ bj (bc y2)++aJ bj (bc y3)++aJ cX (bc y4)++aJ cX (bc y5)++aJ cX (bc y6)
abbrev pB (R:Prop):=ah=ah/\(a8<=a8/\a8<=cH)/\R
def Fi (mo ui gi lk xa st sz fr off:Int) (tg:ByteArray):dE:=λQ=>aI .i64 1->cU mo ui gi (cU lk xa st (cU sz fr off (dC tg (oX (a8,mo,ui,gi,lk,xa,st,sz,fr,off,tg,())/\pB ((ah<=a8/\a8< fa ^ bJ)/\bC<=kh 
 /\(168:Nat)<=cC/\kc<=eU/\(kc<=eU->mc (mc (Ty.ok bR nt->bu ((a8<=nt.2.1/\nt.2.1<=4)/\(lG mo)/\bJ<=kh/\aI .i64 dG/\mg (mg (Ty.ok bR nr->bu ((a8 
 <=nr.2.1/\nr.2.1<=4)/\(lG ui)/\List.length ([]++aJ bJ bJ++aJ bj (bc mo))<=100000000000/\aI .i64 dS/\pR (pR (Ty.ok bR nq->bu ((a8<=nq.2.1/\nq.2.1<=4)/\(lG gi)/\ 
 List.length ([]++aJ bJ bJ++aJ bj (bc mo)++aJ bj (bc ui))<=100000000000/\aI .i64 ee/\pT (pT (Ty.ok bR nk->bu ((a8<=nk.2.1/\nk.2.1<=4)/\(lG lk)/\List.length ([]++aJ 
 bJ bJ++aJ bj (bc mo)++aJ bj (bc ui)++aJ bj (bc gi))<=100000000000/\aI .i64 eV/\fV (l7 (fV (l7 (Ty.ok bR nj->bu ((a8<=nj.2.1/\nj.2.1<=4)/\(oC xa)/\ 
 List.length ([]++aJ bJ bJ++aJ bj (bc mo)++aJ bj (bc ui)++aJ bj (bc gi)++aJ bj (bc lk))<=100000000000/\aI .i64 fZ/\pV (pV (Ty.ok bR ni->bu ((a8<=ni.2.1/\ 
 ni.2.1<=4)/\(oC st)/\List.length ([]++aJ bJ bJ++aJ bj (bc mo)++aJ bj (bc ui)++aJ bj (bc gi)++aJ bj (bc lk)++aJ cX (bc xa))<=100000000000/\aI .i64 ln/\pW (pW 
 (Ty.ok bR nh->bu ((a8<=nh.2.1/\nh.2.1<=4)/\(oC sz)/\List.length ([]++aJ bJ bJ++aJ bj (bc mo)++aJ bj (bc ui)++aJ bj (bc gi)++aJ bj (bc lk)++aJ cX (bc 
 xa)++aJ cX (bc st))<=100000000000/\pA (bu (List.length (Sb mo ui gi lk xa st sz)<=100000000000/\(aN (List.length (Sb mo ui gi lk xa st sz))->aI .i64 0->Q (SV.cZ [S1.c (Cl.d Ty.u8 (Sb mo ui gi lk xa st 
 sz)),.c (.k bn)]) []))))))))))))))))))))))))))))))))
theorem Kq:cM 84 NU:=by
 intro args H Q h;unfold NU at h;split at h;rotate_left;cases h;rename_i mo ui gi lk xa st sz fr off tg;refine Wp.lY [some (.sl .u8),none] [] ?_;refine Wp.dL abh gV ⟨[],[]⟩ Tryz.f84 (Fi mo ui gi lk xa st sz fr off tg) (unr:=[(7,11)]) ?_;unfold Fi oC l7 kh bu pA nh ni nj nk nq nr nt pB mc dC mg pR lG dG Sb pT fV pV eU pW dS ln cC ee fZ eV uH bn cU bc ah a8 fa cH aN bC bJ bj cX kc;obtain ⟨fh,hk,rfl,rfl,rfl,rfl,h⟩:=h;refine λ_ _ _ _ _ _ _ _ _ _ _=>⟨⟨fh,.inl ⟨rfl,hk,rfl,rfl,rfl,rfl⟩⟩,rfl,⟨by decide,by decide⟩,⟨by decide,by decide⟩,by decide,by decide,by decide,λ_=>?_⟩;refine ⟨by decide,by decide,by decide,by decide,λ_=>⟨rfl,⟨by decide,by decide⟩,⟨fh.q1.1,by have:=fh.q1.2;show _< (65536:Int);omega⟩,by decide,by unfold aI;decide,?_⟩⟩;refine ⟨by decide,by decide,by decide,by decide,λ_=>⟨rfl,⟨by decide,by decide⟩,⟨fh.q2.1,by have:=fh.q2.2;show _< (65536:Int);omega⟩,(by simp only [af,aC,aL];decide),by unfold aI;decide,?_⟩⟩;refine ⟨by decide,by decide,by decide,by decide,λ_=>⟨rfl,⟨by decide,by decide⟩,⟨fh.q3.1,by have:=fh.q3.2;show _< (65536:Int);omega⟩,(by simp only [af,aC,aL];decide),by unfold aI;decide,?_⟩⟩;refine ⟨by decide,by decide,by decide,by decide,λ_=>⟨rfl,⟨by decide,by decide⟩,⟨(⟨by decide,by decide⟩:0<=(1:Int)/\(1:Int)<=1024).1,by have:=(⟨by decide,by decide⟩:0<=(1:Int)/\(1:Int)<=1024).2;show _< (65536:Int);omega⟩,(by simp only [af,aC,aL];decide),by unfold aI;decide,?_⟩⟩;refine ⟨by decide,by decide,by decide,by decide,λ_=>⟨rfl,⟨by decide,by decide⟩,⟨fh.q5.1,by have:=fh.q5.2;show _< (4294967296:Int);omega⟩,(by simp only [af,aC,aL];decide),by unfold aI;decide,?_⟩⟩;refine ⟨by decide,by decide,by decide,by decide,λ_=>⟨rfl,⟨by decide,by decide⟩,⟨hk.r1.1,by have:=hk.r1.2;show _< (4294967296:Int);omega⟩,(by simp only [af,aC,aL];decide),by unfold aI;decide,?_⟩⟩;refine ⟨by decide,by decide,by decide,by decide,λ_=>⟨rfl,⟨by decide,by decide⟩,⟨hk.r2.1,by have:=hk.r2.2;show _< (4294967296:Int);omega⟩,(by simp only [af,aC,aL];decide),by unfold aI;decide,?_⟩⟩;refine ⟨rfl,(by simp only [af,aC,aL];decide),λ_ _=>?_⟩;rw [show ([]++aJ 1 1++aJ 2 (aA mo)++aJ 2 (aA ui)++aJ 2 (aA gi)++aJ 2 (aA 1)++aJ 4 (aA xa)++aJ 4 (aA st)++aJ 4 (aA sz):List UInt8)=O1 mo ui gi xa st sz by unfold O1 ZK;simp only [aH,eE]<;>rfl];exact ⟨az _,h⟩
def NT:Ct
 | [.v (.agg [.k (.int .i64 2),.k (.int .i64 mo),.k (.int .i64 ui),.k (.int .i64 gi),.k (.int .i64 lk),.k (.int .i64 xa),.k (.int .i64 st),.k (.int .i64 sz),.k (.int .i64 fr),.k (.int .i64 off),.k (.string tg)])],[],Q=>DM mo ui gi lk xa/\zx st sz fr off/\tg=⟨#[]⟩/\Q (.cZ [.c (.d .u8 (O0 mo ui gi lk xa st sz fr off)),.c (.k (.int .i64 0))]) []
 | _,_,_=>False
def abg:=abh.add Kq
def Fh (mo ui gi lk xa st sz fr off:Int) (tg:ByteArray):dE:=λQ=>aI .i64 2->cU mo ui gi (cU lk xa st (cU sz fr off (dC tg (oX (du,mo,ui,gi,lk,xa,st,sz,fr,off,tg,())/\pB ((ah<=du/\du< fa ^ bJ)/\bC<=kh 
 /\(216:Nat)<=cC/\iz<=eU/\(yB (Ty.ok bR ng->bu ((a8<=ng.2.1/\ng.2.1<=4)/\(lG mo)/\bJ<=kh/\yG (Ty.ok bR nf->bu ((a8<=nf.2.1/\nf.2.1<=4)/\(lG ui)/\ 
 List.length ([]++aJ bJ bj++aJ bj (bc mo))<=100000000000/\yI (Ty.ok bR nc->bu ((a8<=nc.2.1/\nc.2.1<=4)/\(lG gi)/\List.length ([]++aJ bJ bj++aJ bj (bc mo)++aJ 
 bj (bc ui))<=100000000000/\aI .i64 ee/\wF (wF (Ty.ok bR na->bu ((a8<=na.2.1/\na.2.1<=4)/\(lG lk)/\List.length ([]++aJ bJ bj++aJ bj (bc mo)++aJ bj (bc ui)++ 
 aJ bj (bc gi))<=100000000000/\aI .i64 eV/\fV (ah+1+1+1+1< (↑iz:Int)/\fV (ah+1+1+1+1< (↑iz:Int)/\(Ty.ok bR mZ->bu ((a8<=mZ.2.1/\mZ.2.1<=4)/\(oC xa)/\ 
 List.length ([]++aJ bJ bj++aJ bj (bc mo)++aJ bj (bc ui)++aJ bj (bc gi)++aJ bj (bc lk))<=100000000000/\aI .i64 fZ/\wG (wG (Ty.ok bR mY->bu ((a8<=mY.2.1/\ 
 mY.2.1<=4)/\(oC st)/\List.length ([]++aJ bJ bj++aJ bj (bc mo)++aJ bj (bc ui)++aJ bj (bc gi)++aJ bj (bc lk)++aJ cX (bc xa))<=100000000000/\aI .i64 ln/\wH (wH 
 (Ty.ok bR mX->bu ((a8<=mX.2.1/\mX.2.1<=4)/\(lG sz)/\List.length ([]++aJ bJ bj++aJ bj (bc mo)++aJ bj (bc ui)++aJ bj (bc gi)++aJ bj (bc lk)++aJ cX (bc 
 xa)++aJ cX (bc st))<=100000000000/\F9 (Ty.ok bR rq->bu ((a8<=rq.2.1/\rq.2.1<=4)/\(lG fr)/\List.length ([]++aJ bJ bj++aJ bj (bc mo)++aJ bj (bc ui)++aJ bj (bc 
 gi)++aJ bj (bc lk)++aJ cX (bc xa)++aJ cX (bc st)++aJ bj (bc sz))<=100000000000/\Ga (Ty.ok bR rr->bu ((a8<=rr.2.1/\rr.2.1<=4)/\(0<=off/\off< 256 ^ bJ)/\List.length 
 ([]++aJ bJ bj++aJ bj (bc mo)++aJ bj (bc ui)++aJ bj (bc gi)++aJ bj (bc lk)++aJ cX (bc xa)++aJ cX (bc st)++aJ bj (bc sz)++aJ bj (bc fr))<=100000000000 
 /\yk (bu (List.length ([]++aJ bJ bj++aJ bj (bc mo)++aJ bj (bc ui)++aJ bj (bc gi)++aJ bj (bc lk)++aJ cX (bc xa)++aJ cX (bc st)++aJ bj (bc sz)++aJ 
 bj (bc fr)++aJ bJ (bc off))<=100000000000/\(aN (List.length ([]++aJ bJ bj++aJ bj (bc mo)++aJ bj (bc ui)++aJ bj (bc gi)++aJ bj (bc lk)++aJ cX (bc xa)++aJ 
 cX (bc st)++aJ bj (bc sz)++aJ bj (bc fr)++aJ bJ (bc off)))->aI .i64 0->Q (SV.cZ [S1.c (Cl.d Ty.u8 ([]++aJ bJ bj++aJ bj (bc mo)++aJ bj (bc ui)++aJ bj (bc gi)++ 
 aJ bj (bc lk)++aJ cX (bc xa)++aJ cX (bc st)++aJ bj (bc sz)++aJ bj (bc fr)++aJ bJ (bc off))),.c (.k bn)]) []))))))))))))))))))))))))))))))))
theorem Kp:cM 84 NT:=by
 intro args H Q h;unfold NT at h;split at h;rotate_left;cases h;rename_i mo ui gi lk xa st sz fr off tg;refine Wp.lY [some (.sl .u8),none] [] ?_;refine Wp.dL abg gV ⟨[],[]⟩ Tryz.f84 (Fh mo ui gi lk xa st sz fr off tg) (unr:=[(7,11)]) ?_;unfold Fh yk oC kh bu mX mY mZ na nc nf ng pB yB yG dC yI wF lG dG wG rq wH rr fV F9 Ga eU dS ln cC ee fZ eV bn cU bc rC ah a8 du fa cH aN bC bJ bj cX iz;obtain ⟨fh,hk,rfl,h⟩:=h;refine λ_ _ _ _ _ _ _ _ _ _ _=>⟨⟨fh,.inr (.inl ⟨rfl,hk,rfl⟩)⟩,rfl,⟨by decide,by decide⟩,⟨by decide,by decide⟩,by decide,by decide,by decide,λ_=>?_⟩;refine ⟨by decide,by decide,by decide,by decide,λ_=>⟨rfl,⟨by decide,by decide⟩,⟨fh.q1.1,by have:=fh.q1.2;show _< (65536:Int);omega⟩,by decide,by unfold aI;decide,?_⟩⟩;refine ⟨by decide,by decide,by decide,by decide,λ_=>⟨rfl,⟨by decide,by decide⟩,⟨fh.q2.1,by have:=fh.q2.2;show _< (65536:Int);omega⟩,(by simp only [af,aC,aL];decide),by unfold aI;decide,?_⟩⟩;refine ⟨by decide,by decide,by decide,by decide,λ_=>⟨rfl,⟨by decide,by decide⟩,⟨fh.q3.1,by have:=fh.q3.2;show _< (65536:Int);omega⟩,(by simp only [af,aC,aL];decide),by unfold aI;decide,?_⟩⟩;refine ⟨by decide,by decide,by decide,by decide,λ_=>⟨rfl,⟨by decide,by decide⟩,⟨(⟨by have:=fh.q4.1;omega,fh.q4.2⟩:0<=(lk:Int)/\(lk:Int)<=1024).1,by have:=(⟨by have:=fh.q4.1;omega,fh.q4.2⟩:0<=(lk:Int)/\(lk:Int)<=1024).2;show _< (65536:Int);omega⟩,(by simp only [af,aC,aL];decide),by unfold aI;decide,?_⟩⟩;refine ⟨by decide,by decide,by decide,by decide,λ_=>⟨rfl,⟨by decide,by decide⟩,⟨fh.q5.1,by have:=fh.q5.2;show _< (4294967296:Int);omega⟩,(by simp only [af,aC,aL];decide),by unfold aI;decide,?_⟩⟩;refine ⟨by decide,by decide,by decide,by decide,λ_=>⟨rfl,⟨by decide,by decide⟩,⟨hk.r1.1,by have:=hk.r1.2;show _< (4294967296:Int);omega⟩,(by simp only [af,aC,aL];decide),by unfold aI;decide,?_⟩⟩;refine ⟨by decide,by decide,by decide,by decide,λ_=>⟨rfl,⟨by decide,by decide⟩,⟨hk.r2.1,by have:=hk.r2.2;show _< (65536:Int);omega⟩,(by simp only [af,aC,aL];decide),by unfold aI;decide,?_⟩⟩;refine ⟨by decide,by decide,by decide,by decide,λ_=>⟨rfl,⟨by decide,by decide⟩,⟨hk.r3.1,by have:=hk.r3.2;show _< (65536:Int);omega⟩,(by simp only [af,aC,aL];decide),by unfold aI;decide,?_⟩⟩;refine ⟨by decide,by decide,by decide,by decide,λ_=>⟨rfl,⟨by decide,by decide⟩,⟨hk.r4.1,by have:=hk.r4.2;show _< (256:Int);omega⟩,(by simp only [af,aC,aL];decide),by unfold aI;decide,?_⟩⟩;refine ⟨rfl,(by simp only [af,aC,aL];decide),λ_ _=>?_⟩;rw [show ([]++aJ 1 2++aJ 2 (aA mo)++aJ 2 (aA ui)++aJ 2 (aA gi)++aJ 2 (aA lk)++aJ 4 (aA xa)++aJ 4 (aA st)++aJ 2 (aA sz)++aJ 2 (aA fr)++aJ 1 (aA off):List UInt8)=O0 mo ui gi lk xa st sz fr off by unfold O0 ZK;simp only [aH,eE]<;>rfl];exact ⟨az _,h⟩
def NS:Ct
 | [.v (.agg [.k (.int .i64 3),.k (.int .i64 mo),.k (.int .i64 ui),.k (.int .i64 gi),.k (.int .i64 lk),.k (.int .i64 xa),.k (.int .i64 st),.k (.int .i64 sz),.k (.int .i64 fr),.k (.int .i64 off),.k (.string tg)])],[],Q=>DM mo ui gi lk xa/\zw tg/\st=0/\sz=0/\fr=0/\off=0/\Q (.cZ [.c (.d .u8 (Mg mo ui gi lk xa tg)),.c (.k (.int .i64 0))]) []
 | _,_,_=>False
def DG:=abg.add Kp
abbrev Sa (y0:Int) (y1:Int) (y2:Int) (y3:Int) (y4:Int) (y5:ByteArray) (y6):=([]++aJ bJ eX++aJ bj (bc y0)++aJ bj (bc y1)++aJ bj (bc y2)++aJ bj (bc y3)++aJ cX (bc y4)++ax (ByteArray.size y5)::y6)
def Fg (mo ui gi lk xa st sz fr off:Int) (tg:ByteArray):dE:=λQ=>aI .i64 3->cU mo ui gi (cU lk xa st (cU sz fr off (dC tg (oX (lp,mo,ui,gi,lk,xa,st,sz,fr,off,tg,())/\pB ((ah<=lp/\lp< fa ^ bJ)/\bC<=kh 
 /\(120:Nat)<=cC/\ke<=eU/\(yA (Ty.ok bR mW->bu ((a8<=mW.2.1/\mW.2.1<=4)/\(lG mo)/\bJ<=kh/\yF (Ty.ok bR mV->bu ((a8<=mV.2.1/\mV.2.1<=4)/\(lG ui)/\ 
 List.length ([]++aJ bJ eX++aJ bj (bc mo))<=100000000000/\yH (Ty.ok bR mU->bu ((a8<=mU.2.1/\mU.2.1<=4)/\(lG gi)/\List.length ([]++aJ bJ eX++aJ bj (bc mo)++aJ 
 bj (bc ui))<=100000000000/\aI .i64 ee/\wE (wE (Ty.ok bR mT->bu ((a8<=mT.2.1/\mT.2.1<=4)/\(lG lk)/\List.length ([]++aJ bJ eX++aJ bj (bc mo)++aJ bj (bc ui)++ 
 aJ bj (bc gi))<=100000000000/\aI .i64 eV/\fV (ah+1+1+1+1< (↑ke:Int)/\fV (ah+1+1+1+1< (↑ke:Int)/\(Ty.ok bR mS->bu ((a8<=mS.2.1/\mS.2.1<=4)/\(oC xa)/\ 
 List.length ([]++aJ bJ eX++aJ bj (bc mo)++aJ bj (bc ui)++aJ bj (bc gi)++aJ bj (bc lk))<=100000000000/\aI .i64 fZ/\bu (ByteArray.size tg<=255/\List.length ([]++aJ bJ eX 
 ++aJ bj (bc mo)++aJ bj (bc ui)++aJ bj (bc gi)++aJ bj (bc lk)++aJ cX (bc xa))<=1000000000/\bu (List.length (Sa mo ui gi lk xa tg tg.data.toList)<=100000000000/\(aN (List.length 
 (Sa mo ui gi lk xa tg tg.data.toList))->aI .i64 0->Q (SV.cZ [S1.c (Cl.d Ty.u8 (Sa mo ui gi lk xa tg tg.data.toList)),.c (.k bn)]) []))))))))))))))))))))))
theorem rW:cM 84 NS:=by
 intro args H Q h;unfold NS at h;split at h;rotate_left;cases h;rename_i mo ui gi lk xa st sz fr off tg;refine Wp.lY [some (.sl .u8),none] [] ?_;refine Wp.dL DG gV ⟨[],[]⟩ Tryz.f84 (Fg mo ui gi lk xa st sz fr off tg) (unr:=[(7,11)]) ?_;unfold Fg oC kh bu mS mT mU mV mW pB yA yF dC yH wE Sa lG dG fV eU dS zO cC ee fZ eV bn cU bc ah a8 fa lp cH aN bC bJ bj eX cX ke;obtain ⟨fh,hk,rfl,rfl,rfl,rfl,h⟩:=h;refine λ_ _ _ _ _ _ _ _ _ _ _=>⟨⟨fh,.inr (.inr ⟨rfl,hk,rfl,rfl,rfl,rfl⟩)⟩,rfl,⟨by decide,by decide⟩,⟨by decide,by decide⟩,by decide,by decide,by decide,λ_=>?_⟩;refine ⟨by decide,by decide,by decide,by decide,λ_=>⟨rfl,⟨by decide,by decide⟩,⟨fh.q1.1,by have:=fh.q1.2;show _< (65536:Int);omega⟩,by decide,by unfold aI;decide,?_⟩⟩;refine ⟨by decide,by decide,by decide,by decide,λ_=>⟨rfl,⟨by decide,by decide⟩,⟨fh.q2.1,by have:=fh.q2.2;show _< (65536:Int);omega⟩,(by simp only [af,aC,aL];decide),by unfold aI;decide,?_⟩⟩;refine ⟨by decide,by decide,by decide,by decide,λ_=>⟨rfl,⟨by decide,by decide⟩,⟨fh.q3.1,by have:=fh.q3.2;show _< (65536:Int);omega⟩,(by simp only [af,aC,aL];decide),by unfold aI;decide,?_⟩⟩;refine ⟨by decide,by decide,by decide,by decide,λ_=>⟨rfl,⟨by decide,by decide⟩,⟨(⟨by have:=fh.q4.1;omega,fh.q4.2⟩:0<=(lk:Int)/\(lk:Int)<=1024).1,by have:=(⟨by have:=fh.q4.1;omega,fh.q4.2⟩:0<=(lk:Int)/\(lk:Int)<=1024).2;show _< (65536:Int);omega⟩,(by simp only [af,aC,aL];decide),by unfold aI;decide,?_⟩⟩;refine ⟨by decide,by decide,by decide,by decide,λ_=>⟨rfl,⟨by decide,by decide⟩,⟨fh.q5.1,by have:=fh.q5.2;show _< (4294967296:Int);omega⟩,(by simp only [af,aC,aL];decide),by unfold aI;decide,?_⟩⟩;have hl:=hk.len;have uK:tg.data.toList.length=tg.size:=(gU tg).symm;refine ⟨rfl,by omega,(by simp only [af,aC,aL];decide),rfl,by simp only [af,aC,aq,aL,uK];omega,λ_ _=>?_⟩;rw [show ([]++aJ 1 3++aJ 2 (aA mo)++aJ 2 (aA ui)++aJ 2 (aA gi)++aJ 2 (aA lk)++aJ 4 (aA xa)++ax tg.size::tg.data.toList:List UInt8)=Mg mo ui gi lk xa tg by unfold Mg ZK;simp only [aH,eE]<;>rfl];exact ⟨az _,h⟩
def JG:Ct
 | [.v (.agg ci)],[],Q=>(match eH.of ci with
  | some (i,[])=>oX i/\Q (.cZ [.c (.d .u8 (fM i)),.c (.k (.int .i64 0))]) []
  | _=>False)
 | _,_,_=>False
theorem wb:cM 84 JG:=by
 intro args H Q h;unfold JG at h;split at h;rotate_left;cases h;rename_i ci;split at h;rotate_left;cases h;rename_i i hi;refine Wp.said (args':=[.v (.agg (eH.cells i))]) (λE g=>bE.dd (IM hi) (λ_ h=>h)) ?_;clear hi;obtain ⟨k0,mo,ui,gi,lk,xa,st,sz,fr,off,tg,⟨⟩⟩:=i;obtain ⟨⟨hc,ho⟩,h⟩:=h;rcases ho with ⟨e,ho⟩| ⟨e,ho⟩| ⟨e,ho⟩
 .obtain ⟨h1,h2,h3⟩:=ho;have e:k0=1:=e;have h2:lk=1:=h2;subst e h2;exact Kq _ _ _ ⟨hc,h1,rfl,h3.1,h3.2.1,h3.2.2,h⟩
 .have e:k0=2:=e;subst e;exact Kp _ _ _ ⟨hc,ho.1,ho.2,h⟩
 .have e:k0=3:=e;subst e;exact rW _ _ _ ⟨hc,ho.1,ho.2.1,ho.2.2.1,ho.2.2.2.1,ho.2.2.2.2,h⟩
def Hd:Ct
 | [.v (.c (.k (.int .i64 k)))],[],Q=>k=1/\Q (.c (.o 0)) [.sl 227 bR (oO 1)]
 | _,_,_=>False
theorem Us:cM 136 Hd:=by
 intro args H Q h;unfold Hd at h;split at h
 .obtain ⟨rfl,h⟩:=h;exact wc _ _ _ h
 .cases h
def zf:Ct
 | [.v (.c cb)],[],Q=>(match (Ty.sl Ty.u8).of [cb] with
  | some (b,[])=>∃ mo ui gi xa st sz,(DM mo ui gi 1 xa/\Ud st sz)/\b=O1 mo ui gi xa st sz/\Q (.cZ [.agg [.k (.int .i64 1),.k (.int .i64 mo),.k (.int .i64 ui),.k (.int .i64 gi),.k (.int .i64 1),.k (.int .i64 xa),.k (.int .i64 st),.k (.int .i64 sz),.k (.int .i64 0),.k (.int .i64 0),.k (.string ⟨#[]⟩)],.c (.k (.int .i64 0))]) []
  | _=>False)
 | _,_,_=>False
def ajA:=((DG.add rW).add wb).add Us
abbrev Au (y0:List (Ty.u8).den):=List.drop 2 (List.drop 2 (List.drop 2 (List.drop 1 y0)))
abbrev vh (y0:List (Ty.u8).den):=List.drop 4 (List.drop 4 (List.drop 2 (Au y0)))
abbrev rB (y0:List (Ty.u8).den):=List.drop 2 (List.drop 1 y0)
abbrev nB (y0:List (Ty.u8).den):=List.drop 2 (Au y0)
abbrev pU (y0:List (Ty.u8).den):=List.take bj (List.drop 2 (rB y0))
abbrev pS (y0:List (Ty.u8).den):=List.take bj (List.drop 1 y0)
abbrev rp (y0:List (Ty.u8).den):=List.take cX (List.drop 4 (nB y0))
abbrev pQ (y0:List (Ty.u8).den):=List.take bj (rB y0)
abbrev mh (y0:List (Ty.u8).den):=List.take cX (nB y0)
abbrev mf (y0:List (Ty.u8).den):=List.take bj (Au y0)
abbrev jd (y0:List (Ty.u8).den):=List.take bJ y0
abbrev yE (y0:List (Ty.u8).den) (R:Prop):=fp (List.length y0)/\ah=ah/\a8<=a8/\a8<=cH/\a8<=(aF y0)/\fp (List.length y0)/\R
abbrev yC (y0) (y1) (R:Prop):=aN (ByteArray.size (gk (List.take (cF y0) y1)))->ah=ah/\List.drop (cF y0) y1= []/\R
abbrev mR {A1:Type} (y0) (y1:List A1):=List.take (cF y0) y1
abbrev qM (y0:List (Ty.u8).den):Value:=.int .i64 (bM (jd y0))
abbrev qL (y0:List (Ty.u8).den):Value:=.int .i64 (bM (mf y0))
abbrev qK (y0:List (Ty.u8).den):Value:=.int .i64 (bM (mh y0))
abbrev qJ (y0:List (Ty.u8).den):Value:=.int .i64 (bM (pS y0))
abbrev qI (y0:List (Ty.u8).den):Value:=.int .i64 (bM (pQ y0))
abbrev qH (y0:List (Ty.u8).den):Value:=.int .i64 (bM (pU y0))
abbrev yi (y0:List (Ty.u8).den):=List.take cX (vh y0)
abbrev yf (y0:List (Ty.u8).den) (R:Prop):=List.length (List.drop 4 (nB y0))<=140737488355328/\R
abbrev qB (y0:List (Ty.u8).den):=List.drop 2 (rB y0)
def Bx (b:(List (Ty.u8).den)):dE:=λQ=>cW b (yE b (aI .i64 (bM (jd b))->bM (jd b)=a8/\(168:Nat)<=cC/\kc<=eU/\(kc<=eU->mc (mc (Ty.ok bR nt->bu (a8<=nt.2.1/\nt.2.1<=4/\nt.2.1<= 
 (a6 (List.drop 1 b))/\fp (List.length (List.drop 1 b))/\(aI .i64 (bM (pS b))->aI .i64 dG/\mg (mg (Ty.ok bR nr->bu (a8<=nr.2.1/\nr.2.1<=4/\nr.2.1<=(a6 (rB b))/\fp (List.length 
 (rB b))/\(aI .i64 (bM (pQ b))->aI .i64 dS/\pR (pR (Ty.ok bR nq->bu (a8<=nq.2.1/\nq.2.1<=4/\nq.2.1<=(a6 (qB b))/\fp (List.length (qB b))/\(aI .i64 (bM (pU b))->aI 
 .i64 ee/\pT (pT (Ty.ok bR nk->bu (a8<=nk.2.1/\nk.2.1<=4/\nk.2.1<=(a6 (Au b))/\fp (List.length (Au b))/\(aI .i64 (bM (mf b))->aI .i64 eV/\fV (l7 (fV (l7 (Ty.ok 
 bR nj->bu (a8<=nj.2.1/\nj.2.1<=4/\nj.2.1<=(↑(List.length (nB b)):Int)/\List.length (nB b)<=140737488355328/\(aI .i64 (bM (mh b))->aI .i64 fZ/\pV (pV (Ty.ok bR ni->bu 
 (a8<=ni.2.1/\ni.2.1<=4/\ni.2.1<=(↑(List.length (List.drop 4 (nB b))):Int)/\yf b (aI .i64 (bM (rp b))->aI .i64 ln/\pW (pW (Ty.ok bR nh->bu (a8<=nh.2.1/\nh.2.1<=4/\ 
 nh.2.1<=(↑(List.length (vh b)):Int)/\List.length (vh b)<=140737488355328/\(aI .i64 (bM (yi b))->pA (br (bM (jd b)==3) (bu (∃ z r,List.drop cX (vh b)=z::r/\cF z<=List.length r/\ 
 List.length (List.drop 4 (vh b))<=140737488355328/\(yC z r (aI .i64 0->oX (bM (jd b),bM (pS b),bM (pQ b),bM (pU b),bM (mf b),bM (mh b),bM (rp b),bM (yi b),ah,ah,gk 
 (mR z r),())/\Q (SV.cZ [S1.agg [.k (qM b),.k (qJ b),.k (qI b),.k (qH b),.k (qL b),.k (qK b),.k (.int .i64 (bM (rp b))),.k (.int .i64 (bM (yi b))),.k bn,.k bn,.k (.string (gk 
 (mR z r)))],.c (.k bn)]) [])))) (bu (List.drop cX (vh b)= []/\(aI .i64 0->oX (bM (jd b),bM (pS b),bM (pQ b),bM (pU b),bM (mf b),bM (mh b),bM (rp b),bM (yi b),ah, 
 ah,ByteArray.mk #[],())/\Q (SV.cZ [S1.agg [.k (qM b),.k (qJ b),.k (qI b),.k (qH b),.k (qL b),.k (qK b),.k (.int .i64 (bM (rp b))),.k (.int .i64 (bM (yi b))),.k bn,.k bn,.k (.string 
 gY)],.c (.k bn)]) [])))))))))))))))))))))))))))))))))))))
theorem tD:cM 196 zf:=by
 intro args H Q h;unfold zf at h;split at h;rotate_left;cases h;rename_i cb;split at h;rotate_left;cases h;rename_i b hb;refine Wp.said (args':=[.c (.d Ty.u8 b)]) (λE g=>bE.dd (dR hb) (λ_ h=>h)) ?_;clear hb;refine Wp.dL ajA gV ⟨[],[]⟩ Tryz.f196 (Bx b) (unr:=[(5,11)]) ?_;unfold Bx qB yf yi qH qI qJ gY qK qL qM l7 bu mR pA nh ni nj nk nq nr nt yC yE mc jd mf mg mh pQ rp pR dG pS pT fV pU pV nB eU pW dS ln cC ee fZ cW eV rB uH bn vh Au ah a8 cH a6 aF fp aN bJ bj cX kc;obtain ⟨mo,ui,gi,xa,st,sz,⟨fh,hk⟩,rfl,h⟩:=h;have e0:bM (aJ 1 (aA 1))=1:=eh (by decide) (by decide);have e1:bM (aJ 2 (aA mo))=mo:=eh fh.q1.1 (by have:=fh.q1.2;show _< (65536:Int);omega);have e2:bM (aJ 2 (aA ui))=ui:=eh fh.q2.1 (by have:=fh.q2.2;show _< (65536:Int);omega);have e3:bM (aJ 2 (aA gi))=gi:=eh fh.q3.1 (by have:=fh.q3.2;show _< (65536:Int);omega);have e4:bM (aJ 2 (aA 1))=1:=eh (⟨by decide,by decide⟩:0<=(1:Int)/\(1:Int)<=1024).1 (by have:=(⟨by decide,by decide⟩:0<=(1:Int)/\(1:Int)<=1024).2;show _< (65536:Int);omega);have e5:bM (aJ 4 (aA xa))=xa:=eh fh.q5.1 (by have:=fh.q5.2;show _< (4294967296:Int);omega);have e6:bM (aJ 4 (aA st))=st:=eh hk.r1.1 (by have:=hk.r1.2;show _< (4294967296:Int);omega);have e7:bM (aJ 4 (aA sz))=sz:=eh hk.r2.1 (by have:=hk.r2.2;show _< (4294967296:Int);omega);unfold O1 ZK;simp only [aH,iH,iK,LF,Ns,e0,e1,e2,e3,e4,e5,e6,e7];refine λ_=>⟨by simp only [af,aC];omega,by trivial,by decide,by decide,by simp only [af,aC];omega,by simp only [af,aC];omega,λ_=>⟨by trivial,by decide,by decide,λ_=>?_⟩⟩;refine ⟨by decide,by decide,by decide,by decide,λ_=>⟨by trivial,by decide,by decide,by show (2:Int)<=_;simp only [af,aC];omega,by simp only [af,aC];omega,λ_=>⟨by unfold aI;decide,?_⟩⟩⟩;refine ⟨by decide,by decide,by decide,by decide,λ_=>⟨by trivial,by decide,by decide,by show (2:Int)<=_;simp only [af,aC];omega,by simp only [af,aC];omega,λ_=>⟨by unfold aI;decide,?_⟩⟩⟩;refine ⟨by decide,by decide,by decide,by decide,λ_=>⟨by trivial,by decide,by decide,by show (2:Int)<=_;simp only [af,aC];omega,by simp only [af,aC];omega,λ_=>⟨by unfold aI;decide,?_⟩⟩⟩;refine ⟨by decide,by decide,by decide,by decide,λ_=>⟨by trivial,by decide,by decide,by show (2:Int)<=_;simp only [af,aC];omega,by simp only [af,aC];omega,λ_=>⟨by unfold aI;decide,?_⟩⟩⟩;refine ⟨by decide,by decide,by decide,by decide,λ_=>⟨by trivial,by decide,by decide,by show (4:Int)<=_;simp only [af,aC];omega,by simp only [af,aC];omega,λ_=>⟨by unfold aI;decide,?_⟩⟩⟩;refine ⟨by decide,by decide,by decide,by decide,λ_=>⟨by trivial,by decide,by decide,by show (4:Int)<=_;simp only [af,aC];omega,by simp only [af,aC];omega,λ_=>⟨by unfold aI;decide,?_⟩⟩⟩;refine ⟨by decide,by decide,by decide,by decide,λ_=>⟨by trivial,by decide,by decide,by show (4:Int)<=_;simp only [aC];omega,by simp only [aC];omega,λ_=>⟨by unfold aI;decide,?_⟩⟩⟩;refine aw (λhc=>by cases hc) (λ_=>⟨by trivial,by trivial,λ_=>⟨⟨fh,.inl ⟨rfl,hk,rfl,rfl,rfl,rfl⟩⟩,h⟩⟩)
def Hc:Ct
 | [.v (.c (.k (.int .i64 k)))],[],Q=>k=2/\Q (.c (.o 0)) [.sl 227 bR (oO 2)]
 | _,_,_=>False
theorem Ur:cM 136 Hc:=by
 intro args H Q h;unfold Hc at h;split at h
 .obtain ⟨rfl,h⟩:=h;exact wc _ _ _ h
 .cases h
def ze:Ct
 | [.v (.c cb)],[],Q=>(match (Ty.sl Ty.u8).of [cb] with
  | some (b,[])=>∃ mo ui gi lk xa st sz fr off,(DM mo ui gi lk xa/\zx st sz fr off)/\b=O0 mo ui gi lk xa st sz fr off/\Q (.cZ [.agg [.k (.int .i64 2),.k (.int .i64 mo),.k (.int .i64 ui),.k (.int .i64 gi),.k (.int .i64 lk),.k (.int .i64 xa),.k (.int .i64 st),.k (.int .i64 sz),.k (.int .i64 fr),.k (.int .i64 off),.k (.string ⟨#[]⟩)],.c (.k (.int .i64 0))]) []
  | _=>False)
 | _,_,_=>False
def ajz:=(((DG.add rW).add wb).add tD).add Ur
abbrev vB (y0:List (Ty.u8).den):=List.drop 2 (List.drop 2 (vh y0))
abbrev yw (y0:List (Ty.u8).den):=List.take bj (List.drop 2 (vh y0))
abbrev yn (y0:List (Ty.u8).den):=List.take bJ (vB y0)
abbrev yh (y0:List (Ty.u8).den):=List.take bj (vh y0)
def Bw (b:(List (Ty.u8).den)):dE:=λQ=>cW b (yE b (aI .i64 (bM (jd b))->bM (jd b)=du/\(216:Nat)<=cC/\iz<=eU/\(yB (Ty.ok bR ng->bu (a8<=ng.2.1/\ng.2.1<=4/\ng.2.1<=(a6 (List.drop 1 b))/\ 
 fp (List.length (List.drop 1 b))/\(aI .i64 (bM (pS b))->yG (Ty.ok bR nf->bu (a8<=nf.2.1/\nf.2.1<=4/\nf.2.1<=(a6 (rB b))/\fp (List.length (rB b))/\(aI .i64 (bM (pQ b))->yI 
 (Ty.ok bR nc->bu (a8<=nc.2.1/\nc.2.1<=4/\nc.2.1<=(a6 (qB b))/\fp (List.length (qB b))/\(aI .i64 (bM (pU b))->aI .i64 ee/\wF (wF (Ty.ok bR na->bu (a8<=na.2.1 
 /\na.2.1<=4/\na.2.1<=(a6 (Au b))/\fp (List.length (Au b))/\(aI .i64 (bM (mf b))->aI .i64 eV/\fV (ah+1+1+1+1< (↑iz:Int)/\fV (ah+1+1+1+1< (↑iz:Int)/\(Ty.ok bR 
 mZ->bu (a8<=mZ.2.1/\mZ.2.1<=4/\mZ.2.1<=(↑(List.length (nB b)):Int)/\List.length (nB b)<=140737488355328/\(aI .i64 (bM (mh b))->aI .i64 fZ/\wG (wG (Ty.ok bR mY->bu (a8 
 <=mY.2.1/\mY.2.1<=4/\mY.2.1<=(↑(List.length (List.drop 4 (nB b))):Int)/\yf b (aI .i64 (bM (rp b))->aI .i64 ln/\wH (wH (Ty.ok bR mX->bu (a8<=mX.2.1/\mX.2.1<=4/\mX.2.1 
 <=(↑(List.length (vh b)):Int)/\List.length (vh b)<=140737488355328/\(aI .i64 (bM (yh b))->F9 (Ty.ok bR rq->bu (a8<=rq.2.1/\rq.2.1<=4/\rq.2.1<=(↑(List.length (List.drop 2 (vh b))):Int)/\ 
 List.length (List.drop 2 (vh b))<=140737488355328/\(aI .i64 (bM (yw b))->Ga (Ty.ok bR rr->bu (a8<=rr.2.1/\rr.2.1<=4/\rr.2.1<=(↑(List.length (vB b)):Int)/\List.length (vB b)<= 
 140737488355328/\(aI .i64 (bM (yn b))->yk (br (bM (jd b)==3) (bu (∃ z r,List.drop bJ (vB b)=z::r/\cF z<=List.length r/\List.length (List.drop 1 (vB b))<=140737488355328/\(yC z r 
 (aI .i64 0->oX (bM (jd b),bM (pS b),bM (pQ b),bM (pU b),bM (mf b),bM (mh b),bM (rp b),bM (yh b),bM (yw b),bM (yn b),gk (mR z r),())/\Q (SV.cZ [S1.agg [.k (qM 
 b),.k (qJ b),.k (qI b),.k (qH b),.k (qL b),.k (qK b),.k (.int .i64 (bM (rp b))),.k (.int .i64 (bM (yh b))),.k (.int .i64 (bM (yw b))),.k (.int .i64 (bM (yn b))),.k (.string (gk (mR 
 z r)))],.c (.k bn)]) [])))) (bu (List.drop bJ (vB b)= []/\(aI .i64 0->oX (bM (jd b),bM (pS b),bM (pQ b),bM (pU b),bM (mf b),bM (mh b),bM (rp b),bM (yh b),bM (yw 
 b),bM (yn b),ByteArray.mk #[],())/\Q (SV.cZ [S1.agg [.k (qM b),.k (qJ b),.k (qI b),.k (qH b),.k (qL b),.k (qK b),.k (.int .i64 (bM (rp b))),.k (.int .i64 (bM (yh b))),.k (.int .i64 (bM 
 (yw b))),.k (.int .i64 (bM (yn b))),.k (.string gY)],.c (.k bn)]) [])))))))))))))))))))))))))))))))))))))))
theorem xM:cM 196 ze:=by
 intro args H Q h;unfold ze at h;split at h;rotate_left;cases h;rename_i cb;split at h;rotate_left;cases h;rename_i b hb;refine Wp.said (args':=[.c (.d Ty.u8 b)]) (λE g=>bE.dd (dR hb) (λ_ h=>h)) ?_;clear hb;refine Wp.dL ajz gV ⟨[],[]⟩ Tryz.f196 (Bw b) (unr:=[(5,11)]) ?_;unfold Bw qB yf yh yk yn qH qI qJ gY qK qL qM bu mR yw mX mY mZ na nc nf ng yB yC yE yG jd yI mf vB mh pQ wF rp dG pS wG rq wH rr fV F9 pU Ga nB eU dS ln cC ee fZ cW eV rB bn rC vh Au ah a8 du cH a6 aF fp aN bJ bj cX iz;obtain ⟨mo,ui,gi,lk,xa,st,sz,fr,off,⟨fh,hk⟩,rfl,h⟩:=h;have e0:bM (aJ 1 (aA 2))=2:=eh (by decide) (by decide);have e1:bM (aJ 2 (aA mo))=mo:=eh fh.q1.1 (by have:=fh.q1.2;show _< (65536:Int);omega);have e2:bM (aJ 2 (aA ui))=ui:=eh fh.q2.1 (by have:=fh.q2.2;show _< (65536:Int);omega);have e3:bM (aJ 2 (aA gi))=gi:=eh fh.q3.1 (by have:=fh.q3.2;show _< (65536:Int);omega);have e4:bM (aJ 2 (aA lk))=lk:=eh (⟨by have:=fh.q4.1;omega,fh.q4.2⟩:0<=(lk:Int)/\(lk:Int)<=1024).1 (by have:=(⟨by have:=fh.q4.1;omega,fh.q4.2⟩:0<=(lk:Int)/\(lk:Int)<=1024).2;show _< (65536:Int);omega);have e5:bM (aJ 4 (aA xa))=xa:=eh fh.q5.1 (by have:=fh.q5.2;show _< (4294967296:Int);omega);have e6:bM (aJ 4 (aA st))=st:=eh hk.r1.1 (by have:=hk.r1.2;show _< (4294967296:Int);omega);have e7:bM (aJ 2 (aA sz))=sz:=eh hk.r2.1 (by have:=hk.r2.2;show _< (65536:Int);omega);have e8:bM (aJ 2 (aA fr))=fr:=eh hk.r3.1 (by have:=hk.r3.2;show _< (65536:Int);omega);have e9:bM (aJ 1 (aA off))=off:=eh hk.r4.1 (by have:=hk.r4.2;show _< (256:Int);omega);unfold O0 ZK;simp only [aH,iH,iK,LF,Ns,e0,e1,e2,e3,e4,e5,e6,e7,e8,e9];refine λ_=>⟨by simp only [af,aC];omega,by trivial,by decide,by decide,by simp only [af,aC];omega,by simp only [af,aC];omega,λ_=>⟨by trivial,by decide,by decide,λ_=>?_⟩⟩;refine ⟨by decide,by decide,by decide,by decide,λ_=>⟨by trivial,by decide,by decide,by show (2:Int)<=_;simp only [af,aC];omega,by simp only [af,aC];omega,λ_=>⟨by unfold aI;decide,?_⟩⟩⟩;refine ⟨by decide,by decide,by decide,by decide,λ_=>⟨by trivial,by decide,by decide,by show (2:Int)<=_;simp only [af,aC];omega,by simp only [af,aC];omega,λ_=>⟨by unfold aI;decide,?_⟩⟩⟩;refine ⟨by decide,by decide,by decide,by decide,λ_=>⟨by trivial,by decide,by decide,by show (2:Int)<=_;simp only [af,aC];omega,by simp only [af,aC];omega,λ_=>⟨by unfold aI;decide,?_⟩⟩⟩;refine ⟨by decide,by decide,by decide,by decide,λ_=>⟨by trivial,by decide,by decide,by show (2:Int)<=_;simp only [af,aC];omega,by simp only [af,aC];omega,λ_=>⟨by unfold aI;decide,?_⟩⟩⟩;refine ⟨by decide,by decide,by decide,by decide,λ_=>⟨by trivial,by decide,by decide,by show (4:Int)<=_;simp only [af,aC];omega,by simp only [af,aC];omega,λ_=>⟨by unfold aI;decide,?_⟩⟩⟩;refine ⟨by decide,by decide,by decide,by decide,λ_=>⟨by trivial,by decide,by decide,by show (4:Int)<=_;simp only [af,aC];omega,by simp only [af,aC];omega,λ_=>⟨by unfold aI;decide,?_⟩⟩⟩;refine ⟨by decide,by decide,by decide,by decide,λ_=>⟨by trivial,by decide,by decide,by show (2:Int)<=_;simp only [af,aC];omega,by simp only [af,aC];omega,λ_=>⟨by unfold aI;decide,?_⟩⟩⟩;refine ⟨by decide,by decide,by decide,by decide,λ_=>⟨by trivial,by decide,by decide,by show (2:Int)<=_;simp only [af,aC];omega,by simp only [af,aC];omega,λ_=>⟨by unfold aI;decide,?_⟩⟩⟩;refine ⟨by decide,by decide,by decide,by decide,λ_=>⟨by trivial,by decide,by decide,by show (1:Int)<=_;simp only [aC];omega,by simp only [aC];omega,λ_=>⟨by unfold aI;decide,?_⟩⟩⟩;refine aw (λhc=>by cases hc) (λ_=>⟨by trivial,by trivial,λ_=>⟨⟨fh,.inr (.inl ⟨rfl,hk,rfl⟩)⟩,h⟩⟩)
def Hb:Ct
 | [.v (.c (.k (.int .i64 k)))],[],Q=>k=3/\Q (.c (.o 0)) [.sl 227 bR (oO 3)]
 | _,_,_=>False
theorem Uq:cM 136 Hb:=by
 intro args H Q h;unfold Hb at h;split at h
 .obtain ⟨rfl,h⟩:=h;exact wc _ _ _ h
 .cases h
def zd:Ct
 | [.v (.c cb)],[],Q=>(match (Ty.sl Ty.u8).of [cb] with
  | some (b,[])=>∃ mo ui gi lk xa tg,(DM mo ui gi lk xa/\zw tg)/\b=Mg mo ui gi lk xa tg/\Q (.cZ [.agg [.k (.int .i64 3),.k (.int .i64 mo),.k (.int .i64 ui),.k (.int .i64 gi),.k (.int .i64 lk),.k (.int .i64 xa),.k (.int .i64 0),.k (.int .i64 0),.k (.int .i64 0),.k (.int .i64 0),.k (.string tg)],.c (.k (.int .i64 0))]) []
  | _=>False)
 | _,_,_=>False
def ajy:=((((DG.add rW).add wb).add tD).add xM).add Uq
def Bv (b:(List (Ty.u8).den)):dE:=λQ=>cW b (yE b (aI .i64 (bM (jd b))->bM (jd b)=lp/\(120:Nat)<=cC/\ke<=eU/\(yA (Ty.ok bR mW->bu (a8<=mW.2.1/\mW.2.1<=4/\mW.2.1<=(a6 (List.drop 1 b))/\ 
 fp (List.length (List.drop 1 b))/\(aI .i64 (bM (pS b))->yF (Ty.ok bR mV->bu (a8<=mV.2.1/\mV.2.1<=4/\mV.2.1<=(a6 (rB b))/\fp (List.length (rB b))/\(aI .i64 (bM (pQ b))->yH 
 (Ty.ok bR mU->bu (a8<=mU.2.1/\mU.2.1<=4/\mU.2.1<=(a6 (qB b))/\fp (List.length (qB b))/\(aI .i64 (bM (pU b))->aI .i64 ee/\wE (wE (Ty.ok bR mT->bu (a8<=mT.2.1 
 /\mT.2.1<=4/\mT.2.1<=(a6 (Au b))/\fp (List.length (Au b))/\(aI .i64 (bM (mf b))->aI .i64 eV/\fV (ah+1+1+1+1< (↑ke:Int)/\fV (ah+1+1+1+1< (↑ke:Int)/\(Ty.ok bR 
 mS->bu (a8<=mS.2.1/\mS.2.1<=4/\mS.2.1<=(↑(List.length (nB b)):Int)/\List.length (nB b)<=140737488355328/\(aI .i64 (bM (mh b))->aI .i64 fZ/\br (bM (jd b)==3) (bu (∃ z r, 
 List.drop cX (nB b)=z::r/\cF z<=List.length r/\yf b (yC z r (aI .i64 0->oX (bM (jd b),bM (pS b),bM (pQ b),bM (pU b),bM (mf b),bM (mh b),ah,ah,ah,ah, 
 gk (mR z r),())/\Q (SV.cZ [S1.agg [.k (qM b),.k (qJ b),.k (qI b),.k (qH b),.k (qL b),.k (qK b),.k bn,.k bn,.k bn,.k bn,.k (.string (gk (mR z r)))],.c (.k bn)]) [])))) (bu 
 (List.drop cX (nB b)= []/\(aI .i64 0->oX (bM (jd b),bM (pS b),bM (pQ b),bM (pU b),bM (mf b),bM (mh b),ah,ah,ah,ah,ByteArray.mk #[],())/\Q (SV.cZ [S1.agg [.k (qM b), 
 .k (qJ b),.k (qI b),.k (qH b),.k (qL b),.k (qK b),.k bn,.k bn,.k bn,.k bn,.k (.string gY)],.c (.k bn)]) []))))))))))))))))))))))))
theorem EE:cM 196 zd:=by
 intro args H Q h;unfold zd at h;split at h;rotate_left;cases h;rename_i cb;split at h;rotate_left;cases h;rename_i b hb;refine Wp.said (args':=[.c (.d Ty.u8 b)]) (λE g=>bE.dd (dR hb) (λ_ h=>h)) ?_;clear hb;refine Wp.dL ajy gV ⟨[],[]⟩ Tryz.f196 (Bv b) (unr:=[(5,11)]) ?_;unfold Bv qB yf qH qI qJ gY qK qL qM bu mR mS mT mU mV mW yA yC yE yF jd yH mf mh pQ wE dG pS fV pU nB eU dS zO cC ee fZ cW eV rB bn Au ah a8 lp cH a6 aF fp aN bJ bj cX ke;obtain ⟨mo,ui,gi,lk,xa,tg,⟨fh,hk⟩,rfl,h⟩:=h;have e0:bM (aJ 1 (aA 3))=3:=eh (by decide) (by decide);have e1:bM (aJ 2 (aA mo))=mo:=eh fh.q1.1 (by have:=fh.q1.2;show _< (65536:Int);omega);have e2:bM (aJ 2 (aA ui))=ui:=eh fh.q2.1 (by have:=fh.q2.2;show _< (65536:Int);omega);have e3:bM (aJ 2 (aA gi))=gi:=eh fh.q3.1 (by have:=fh.q3.2;show _< (65536:Int);omega);have e4:bM (aJ 2 (aA lk))=lk:=eh (⟨by have:=fh.q4.1;omega,fh.q4.2⟩:0<=(lk:Int)/\(lk:Int)<=1024).1 (by have:=(⟨by have:=fh.q4.1;omega,fh.q4.2⟩:0<=(lk:Int)/\(lk:Int)<=1024).2;show _< (65536:Int);omega);have e5:bM (aJ 4 (aA xa))=xa:=eh fh.q5.1 (by have:=fh.q5.2;show _< (4294967296:Int);omega);have hl:=hk.len;have uK:tg.data.toList.length=tg.size:=(gU tg).symm;have h8:(ax tg.size).toNat=tg.size:=UInt8.toNat_ofNat_of_lt' (by show tg.size< 256;omega);unfold Mg ZK;simp only [aH,iH,iK,e0,e1,e2,e3,e4,e5];refine λ_=>⟨by simp only [af,aC,aq,uK];omega,by trivial,by decide,by decide,by simp only [af,aC,aq,uK];omega,by simp only [af,aC,aq,uK];omega,λ_=>⟨by trivial,by decide,by decide,λ_=>?_⟩⟩;refine ⟨by decide,by decide,by decide,by decide,λ_=>⟨by trivial,by decide,by decide,by show (2:Int)<=_;simp only [af,aC,aq,uK];omega,by simp only [af,aC,aq,uK];omega,λ_=>⟨by unfold aI;decide,?_⟩⟩⟩;refine ⟨by decide,by decide,by decide,by decide,λ_=>⟨by trivial,by decide,by decide,by show (2:Int)<=_;simp only [af,aC,aq,uK];omega,by simp only [af,aC,aq,uK];omega,λ_=>⟨by unfold aI;decide,?_⟩⟩⟩;refine ⟨by decide,by decide,by decide,by decide,λ_=>⟨by trivial,by decide,by decide,by show (2:Int)<=_;simp only [af,aC,aq,uK];omega,by simp only [af,aC,aq,uK];omega,λ_=>⟨by unfold aI;decide,?_⟩⟩⟩;refine ⟨by decide,by decide,by decide,by decide,λ_=>⟨by trivial,by decide,by decide,by show (2:Int)<=_;simp only [af,aC,aq,uK];omega,by simp only [af,aC,aq,uK];omega,λ_=>⟨by unfold aI;decide,?_⟩⟩⟩;refine ⟨by decide,by decide,by decide,by decide,λ_=>⟨by trivial,by decide,by decide,by show (4:Int)<=_;simp only [af,aC,aq,uK];omega,by simp only [af,aC,aq,uK];omega,λ_=>⟨by unfold aI;decide,?_⟩⟩⟩;refine aw (λ_=>⟨by trivial,ax tg.size,tg.data.toList,by trivial,by omega,by simp only [aq,uK];omega,λ_=>?_⟩) (λhc=>by cases hc);rw [h8,<-uK,ff,List.drop_length,zg];exact ⟨by trivial,by trivial,λ_=>⟨⟨fh,.inr (.inr ⟨rfl,hk,rfl,rfl,rfl,rfl⟩)⟩,h⟩⟩
structure WB (A:Value->Atom) (T:List Int) (R:List UInt8) (fs:List (List UInt8)):Prop where ex:∃ x y,A=jX [.cells 150 [.de (.int .u32) T 0 0,.o 1,.o 2],.sl 5 .u8 x,.sl 5 .u8 y]/\T.length=256/\MW T x y R fs
structure RB (A:Value->Atom) (fs:List (List UInt8)) (R:List UInt8):Prop where ex:∃ T im a c M,A=jX [.cells 245 [.de (.int .u32) T 0 0,.d .u8 im,.k (.int .i64 a),.k (.int .i64 c),.m 1],.map 3 .int dY M]/\T.length=256/\im.length<=100000000/\R.length<=10000000/\iX T im a c fs R M
def AV:Ct
 | [.v (.c (.p 0 0)),.v (.c cb)],[.abs A],Q=>(match (Ty.sl Ty.u8).of [cb] with
  | some (b,[])=>∃ T R fs,WB A T R fs/\R.length+b.length<=10000000/\∀ A' (r:Nat) fs',WB A' T (R++b) (fs++fs')->(∀ gs,r=dV (fs++gs) R.length)->Q (.int r) [.abs A']
  | _=>False)
 | _,_,_=>False
theorem wa:cM 54 AV:=λargs H Q h=>by
 unfold AV at h;split at h
 .refine Bc _ _ _ ?_;rename_i Q cb A;split at h;rotate_left
  .cases h
  rename_i b hb;obtain ⟨T,R,fs,⟨x,y,rfl,hT,hm⟩,hl,h⟩:=h;refine ⟨T,x,y,rfl,?_⟩;unfold AX;simp only [hb];refine ⟨R,fs,hT,hm,hl,λx' y' fs' hm'=>?_⟩;exact h _ (256*x.length+y.length) fs' ⟨_,_,rfl,hT,hm'⟩ (λgs=>hm.ref gs)
 .cases h
def NF:Ct
 | [.v (.c (.p 0 0))],[.abs A],Q=>∃ T R fs,WB A T R fs/\R.length<=10000000/\∀ A' fs',lg T (fs++fs') R->Q (.c (.d .u8 (fs++fs').flatten)) [.abs A']
 | _,_,_=>False
theorem A9:cM 55 NF:=λargs H Q h=>by
 unfold NF at h;split at h
 .refine Ey _ _ _ ?_;rename_i Q A;obtain ⟨T,R,fs,⟨x,y,rfl,hT,hm⟩,hl,h⟩:=h;refine ⟨T,x,y,rfl,?_⟩;unfold xu;refine ⟨R,fs,hT,hm,hl,λfs' hf=>?_⟩;exact h _ fs' hf
 .cases h
def NJ:Ct
 | [.v (.c (.p 0 0)),.v (.c (.k (.int .i64 r))),.v (.c (.k (.int .i64 n)))],[.abs A],Q=>∃ fs R,RB A fs R/\∃ o:Nat,o<=R.length/\r=(dV fs o:Int)/\(0<=n/\n<=10000000)/\∀ A' z nx e,RB A' fs R->pn fs R o n.toNat z nx e->Q (.cZ [.c (.d .u8 z),.c (.k (.int .i64 nx)),.c (.k (.int .i64 e))]) [.abs A']
 | _,_,_=>False
theorem Kc:cM 147 NJ:=λargs H Q h=>by
 unfold NJ at h;split at h
 .refine Ez _ _ _ ?_;rename_i Q r n A;obtain ⟨fs,R,⟨T,im,a,c,M,rfl,hT,hi,hR,hm⟩,o,ho,hr,hn,h⟩:=h;refine ⟨T,im,a,c,M,rfl,?_⟩;unfold xw;refine ⟨fs,R,hT,hi,hm,o,ho,hR,hr,hn,λz nx e M' hm' hz=>?_⟩;exact h _ z nx e ⟨_,_,_,_,_,rfl,hT,hi,hR,hm'⟩ hz
 .cases h
def Tm:Ct
 | [.v (.c (.de (.int .u32) T 0 0))],[],Q=>T.length=256/\∀ A,WB A T [] []->Q (.c (.p 0 0)) [.abs A]
 | _,_,_=>False
theorem Hw:cM 47 Tm:=λargs H Q h=>by
 unfold Tm at h;split at h
 .refine Kf _ _ _ ?_;exact h.2 _ ⟨[],[],rfl,h.1,MW.nil _⟩
 .cases h
def NK:Ct
 | [.v (.c (.de (.int .u32) T 0 0)),.v (.c ci),.v (.c (.k (.int .i64 a))),.v (.c (.k (.int .i64 c)))],[],Q=>(match (Ty.sl Ty.u8).of [ci] with
  | some (im,[])=>(T.length=256/\im.length<=100000000)/\∃ fs R,R.length<=10000000/\iX T im a c fs R []/\∀ A,RB A fs R->Q (.c (.p 0 0)) [.abs A]
  | _=>False)
 | _,_,_=>False
theorem Kd:cM 103 NK:=λargs H Q h=>by
 unfold NK at h;split at h
 .rename_i Q T ci a c;split at h;rotate_left
  .cases h
  rename_i im hb;obtain ⟨⟨hT,hi⟩,fs,R,hR,hm,h⟩:=h;refine EA _ _ _ ?_;unfold G9 xy;simp only [hb];exact ⟨hi,h _ ⟨_,_,_,_,_,rfl,hT,hi,hR,hm⟩⟩
 .cases h
def NR:Ct
 | [.v (.c cb)],[],Q=>(match (Ty.sl Ty.u8).of [cb] with
  | some (b,[])=>∃ i,oX i/\b=fM i/\Q (.cZ [.agg (eH.cells i),.c (.k (.int .i64 0))]) []
  | _=>False)
 | _,_,_=>False
theorem W2:cM 196 NR:=by
 intro args H Q h;unfold NR at h;split at h;rotate_left;cases h;rename_i Q cb;split at h;rotate_left;cases h;rename_i b hb;obtain ⟨⟨k0,mo,ui,gi,lk,xa,st,sz,fr,off,tg,⟨⟩⟩,⟨hc,ho⟩,rfl,h⟩:=h;rcases ho with ⟨e,ho⟩| ⟨e,ho⟩| ⟨e,ho⟩
 .obtain ⟨h1,h2,h3,h4,h5⟩:=ho;have e:k0=1:=e;have h2:lk=1:=h2;have h3:fr=0:=h3;have h4:off=0:=h4;have h5:tg=⟨#[]⟩:=h5;subst e h2 h3 h4 h5;refine tD _ _ _ ?_;unfold zf;simp only [hb];exact ⟨mo,ui,gi,xa,st,sz,⟨hc,h1⟩,rfl,h⟩
 .have e:k0=2:=e;have h5:tg=⟨#[]⟩:=ho.2;subst e h5;refine xM _ _ _ ?_;unfold ze;simp only [hb];exact ⟨mo,ui,gi,lk,xa,st,sz,fr,off,⟨hc,ho.1⟩,rfl,h⟩
 .obtain ⟨h1,h2,h3,h4,h5⟩:=ho;have e:k0=3:=e;have h2:st=0:=h2;have h3:sz=0:=h3;have h4:fr=0:=h4;have h5:off=0:=h5;subst e h2 h3 h4 h5;refine EE _ _ _ ?_;unfold zd;simp only [hb];exact ⟨mo,ui,gi,lk,xa,tg,⟨hc,h1⟩,rfl,h⟩
def Z8:Ct:=cP<| cI λr=>cO λH Q=>match H with
 | [.abs A]=>∃ fs R,RB A fs R/\∃ o:Nat,o<=R.length/\r=(dV fs o:Int)/\∃ i q,oX i/\R.drop o=fM i++q/\∀ A',RB A' fs R->Q (.cZ [.agg (eH.cells i),.c (.k (.int .i64 (dV fs (o+(fM i).length):Nat))),.c (.k (.int .i64 0))]) [.abs A']
 | _=>False
def abf:=((((((((((DG.add rW).add wb).add tD).add xM).add EE).add wa).add A9).add Kc).add Hw).add Kd).add W2
abbrev Pj:=SV.cZ [S1.agg [.k bn,.k bn,.k bn,.k bn,.k bn,.k bn,.k bn,.k bn,.k bn,.k bn,.k (.string (ByteArray.mk #[]))],.c (.k bn),.c (.k (.int .i64 2))]
abbrev vw {A1:Type} (y0) (y1:List A1) (y2:Int) (y3) (y4:Int) (R:Prop):=y0<=List.length y1/\y2=(↑(dV y3 y0):Int)/\(0<=y4/\y4<=10000000)/\R
abbrev Il (y0:List UInt8):=a8+(↑(cF (aB Ty.u8 y0 (13:Int))):Int)
abbrev Ic (y0:List UInt8):=(↑(List.length (oO (fO y0))):Int)
def Ff (r:Int) (A:Value->Atom):dE:=λQ=>aI .i64 r->∃ fs R,RB A fs R/\∃ o,o<=List.length R/\r=(↑(dV fs o):Int)/\(ah<=(14:Int)/\(14:Int)<=(10000000:Int))/\∀ (A':Value->Atom) (z:List UInt8) (nx e:Int),RB A' fs R->pn fs R o (14: 
 Nat) z nx e->db z (cn nx e (br (e !=0) (Q Pj [HO.abs A']) (ah<=ah/\ah< (aF z)/\(kV z (List.length (oO (fO z))<=9223372036854775807->ba (λi ag=>br (decide (i.1.1< (Ic z))) (0<=i.1.1/\ 
 i.1.1< (Ic z)/\0<=i.1.1/\i.1.1< (Ic z)/\(Ty.ok bR (aB bR (oO (fO z)) i.1.1)->aI .i64 (i.1.2.1+(aB bR (oO (fO z)) i.1.1).2.1)/\cG i.1.1 (ag ((i.1.1+1,i.1.2.1+(aB bR (oO (fO z)) 
 i.1.1).2.1,()),())))) (cY (λk=>ah<=ah/\ah< (aF z)/\(kV z (br ((fO z)==3) (ah<=(13:Int)/\(13:Int)< (aF z)/\(Ty.ok Ty.u8 (aB Ty.u8 z (13:Int))->aI .i64 (Il z)/\aI .i64 (i.1.2.1+ 
 (Il z))/\k ((i.1.2.1+(Il z),()),()))) (k (i.1.2,()))))) λi=>∃ fs R,RB A' fs R/\∃ o,vw o R r fs i.1.1 (∀ (A':Value->Atom) (z:List UInt8) (nx e:Int),RB A' fs R->pn fs R o (bc i.1.1) z nx e->db z 
 (cn nx e (br (e !=0) (Q Pj [HO.abs A']) (∃ i,oX i/\z=fM i/\(cU i.1 i.2.1 i.2.2.1 (cU i.2.2.2.1 i.2.2.2.2.1 i.2.2.2.2.2.1 (cU i.2.2.2.2.2.2.1 i.2.2.2.2.2.2.2.1 i.2.2.2.2.2.2.2.2.1 (aI .i64 i.2.2.2.2.2.2.2.2.2.1-> 
 dC i.2.2.2.2.2.2.2.2.2.2.1 (aI .i64 0->Q (SV.cZ [S1.agg [.k (aE i.1),.k (aE i.2.1),.k (aE i.2.2.1),.k (aE i.2.2.2.1),.k (aE i.2.2.2.2.1),.k (aE i.2.2.2.2.2.1),.k (aE i.2.2.2.2.2.2.1),.k (aE i.2.2.2.2.2.2.2.1), 
 .k (aE i.2.2.2.2.2.2.2.2.1),.k (aE i.2.2.2.2.2.2.2.2.2.1),.k (.string i.2.2.2.2.2.2.2.2.2.2.1)],.c (.k (aE nx)),.c (.k bn)]) [HO.abs A']))))))))))) ((ah,(13:Int),()),()))))))
theorem Ko:cM 148 Z8:=fe<| rK<| nK λr=>rM λH Q h=>by
 split at h;rotate_left;cases h;rename_i A;refine Wp.dL abf gV ⟨[(7,⟨[(28,.int .i64),(9,.int .i64)],[]⟩)],[(13,⟨[(9,.int .i64)],[]⟩)]⟩ Tryz.f148 (Ff r A) ?_;unfold Ff Ic kV Il vw Pj db dC cn cG bn cU bc fO aE ah a8 aF aN;obtain ⟨fs,R,hR,o,ho,rfl,i,q,hi,hd,h⟩:=h;have hl:=congrArg List.length hd;rw [aW,af] at hl;have hn:=R8 hi;have hk:i.1=1\/i.1=2\/i.1=3:=by rcases hi.or with ⟨e,_⟩| ⟨e,_⟩| ⟨e,_⟩;exact .inl e;exact .inr (.inl e);exact .inr (.inr e)
 have h200:i.1=3->0< i.2.2.2.2.2.2.2.2.2.2.1.size/\i.2.2.2.2.2.2.2.2.2.2.1.size<=200:=λe3=>by rcases hi.or with ⟨e,_⟩| ⟨e,_⟩| ⟨e,hL,_⟩;rw [e] at e3;cases e3;rw [e] at e3;cases e3;exact hL.len
 have h15:14<=(fM i).length/\(fM i).length<=214:=by
  rcases hk with e| e| e;rw [hn,if_pos e];decide;rw [hn,if_neg (by rw [e];decide),if_pos e];decide
  .have:=h200 e;rw [hn,if_neg (by rw [e];decide),if_neg (by rw [e];decide)];omega
 refine λ_=>⟨fs,R,hR,o,ho,rfl,⟨by decide,by decide⟩,λA' z nx e hR hz _ _ _=>?_⟩;obtain ⟨rfl,rfl,rfl⟩:=hz.ok (by omega);obtain ⟨t,ht⟩:=Mf hi;have Az:((aB .u8 ((R.drop o).take 14) 0).toNat:Int)=i.1:=by
  rw [hd,ht];show ((ax i.1.toNat).toNat:Int)=i.1;rcases hk with e| e| e<;>rw [e]<;>rfl
 have ann:i.1=3->((aB .u8 ((R.drop o).take 14) 13).toNat:Int)=i.2.2.2.2.2.2.2.2.2.2.1.size:=λe=>by
  have hlen:=h200 e;have h13:=adh (i:=i) e;have e2:((R.drop o).take 14)[13]?=some (ax i.2.2.2.2.2.2.2.2.2.2.1.size):=by
   rw [List.getElem?_take_of_lt (by decide),hd,aU (by omega),h13]
  unfold aB;rw [aP,show (13:Int).toNat=13 from rfl,e2];show ((ax i.2.2.2.2.2.2.2.2.2.2.1.size).toNat:Int)=_;rw [UInt8.toNat_ofNat_of_lt' (by show i.2.2.2.2.2.2.2.2.2.2.1.size< 256;omega)]
 have Om:((R.drop o).take 14).length=14:=by rw [aD,aW];omega
 refine aw (λhc=>by cases hc) (λ_=>⟨by decide,by omega,λ_ _=>?_⟩);rw [Az,Om];have hB:∀ x∈oO i.1,0<=(x.2.1:Int)/\(x.2.1:Int)<=4:=by rcases hk with e| e| e<;>rw [e]<;>decide
 have hF:(oO i.1).length<=4:=by rcases hk with e| e| e<;>rw [e]<;>decide
 have hS:13+va (oO i.1)=if i.1=1 then 21 else if i.1=2 then 22 else 13:=by rcases hk with e| e| e<;>rw [e]<;>rfl
 refine ba.intro (λj=>0<=j.1.1/\j.1.1<=(oO i.1).length/\j.1.2.1=13+va ((oO i.1).take j.1.1.toNat)) (λj=>((oO i.1).length - j.1.1).toNat) ⟨bp _,by show (0:Int)<=_;omega,rfl⟩ ?_;rintro ⟨⟨j,n,_⟩,_⟩ ⟨j0,j1,hj⟩;simp only at j0 j1 hj ⊢;subst hj;refine aw (λhc=>?_) (λhc=>?_)
 .have hc:j< ((oO i.1).length:Int):=of_decide_eq_true hc;have h1:=UC j0 hc;have h2:=RS (l:=oO i.1) (j+1).toNat hB;rw [Int.add_assoc,<-h1];exact ⟨j0,hc,j0,hc,λ_=>⟨by unfold aI;omega,by unfold aI;omega,⟨by omega,by omega,rfl⟩,by omega⟩⟩
 .have hc:¬j< ((oO i.1).length:Int):=of_decide_eq_false hc;rw [aV (l:=oO i.1) (i:=j.toNat) (by omega),hS];refine cY.intro (λk=>k.1.1=(fM i).length) ⟨by decide,by decide,λ_=>aw (λh3=>?_) (λh3=>?_)⟩ ?_
  .have h3:i.1=3:=eq_of_beq h3;have:=h200 h3;rw [ann h3];refine ⟨by decide,by decide,λ_=>⟨by unfold aI;omega,?_,?_⟩⟩
   .rw [if_neg (by rw [h3];decide),if_neg (by rw [h3];decide)];unfold aI;omega
   .dsimp only;rw [hn,if_neg (by rw [h3];decide),if_neg (by rw [h3];decide),if_neg (by rw [h3];decide),if_neg (by rw [h3];decide)];omega
  .have h3:¬i.1=3:=λe=>by rw [e] at h3;cases h3
   show _=_;rw [hn];rcases hk with e| e| e;rw [if_pos e,if_pos e];rfl;rw [if_neg (by rw [e];decide),if_pos e,if_neg (by rw [e];decide),if_pos e];rfl;exact absurd e h3
  .rintro ⟨⟨n,_⟩,_⟩ hn2;simp only at hn2 ⊢;subst hn2;refine ⟨fs,R,hR,o,ho,rfl,⟨by omega,by omega⟩,λA' z nx e hR hz _ _ _=>?_⟩;rw [bm] at hz;obtain ⟨rfl,rfl,rfl⟩:=hz.ok (by omega);refine aw (λhc=>by cases hc) (λ_=>⟨i,hi,?_,?_⟩)
   .rw [hd,List.take_left]
   .exact λ_ _ _ _ _ _ _ _ _ _ _ _=>h A' hR
end Go.Proofs

namespace Go.LmN
open Go.Lm
open Go Go.RowKit

def Tb (a b:ByteArray):Bool:=a.toList==b.toList
section
variable {a b:List ByteArray} {k X:Int}
end

def RW:List ByteArray->List ByteArray->Bool
 | [],[]=>true
 | a::al,b::bs=>Tb a b&& RW al bs
 | _,_=>false
section
variable {a b:List ByteArray} {k:Int} {X:Bool}
end
section
variable {a b:List ByteArray} {k:Int} {X:Bool}
end
end Go.LmN
namespace Go.LmN
open Go.Lm
open Go Go.RowKit

def aay (c:UInt8):Bool:=c==0|| c==47
def AE (s:ByteArray) (p:Nat):Bool:=(s.data.toList.drop p).any aay
def aiL (s:ByteArray):Bool:=s.toList==(⟨#[]⟩:ByteArray).toList|| (s.toList==(⟨#[46]⟩:ByteArray).toList|| s.toList==(⟨#[46,46]⟩:ByteArray).toList)
def dA (s:ByteArray):Int:=if (s.size:Int)>255 then 23 else if aiL s|| AE s 0 then 22 else 0
theorem gK (s:ByteArray):s.size=s.data.toList.length:=by
 rw [dw];rfl
theorem Zp (s:ByteArray) (p:Nat) (h:p< s.size):s.data.toList[p]'(by rw [<-gK];exact h)=s[p]:=by
 obtain ⟨d⟩:=s;simp [ByteArray.getElem_eq_getElem_data]
theorem Hj (s:ByteArray) (p:Nat) (h:p< s.size):AE s p=(aay s[p]|| AE s (p+1)):=by
 unfold AE;rw [bO (by rw [<-gK];exact h),List.any_cons,Zp s p h]
theorem aaz (s:ByteArray) (p:Nat) (h:¬p< s.size):AE s p=false:=by
 unfold AE;rw [eZ (by rw [<-gK];omega)];rfl
theorem Zq (s:ByteArray) (p:Nat) (h:p< s.size):s.get! p=s[p]:=by
 have:=get_at s p h;simpa using this
theorem Nv (s:ByteArray) (p:Nat) (h:p< s.size) (ha:128<=(s[p]'h).toNat) (k:Nat) (hk:1<=k) (P2:k< (Utf8.decode s p).2):∃ h':p+k< s.size,128<=(s[p+k]'h').toNat:=by
 have cont:∀ j,(decide (p+j< s.size)&& (s.get! (p+j)).toNat / 64==2)=true->∃ h':p+j< s.size,128<=(s[p+j]'h').toNat:=λj hj=>by
  simp only [ao,decide_eq_true_eq,beq_iff_eq] at hj;refine ⟨hj.1,?_⟩;rw [<-Zq s (p+j) hj.1];omega
 have h0:¬(s.get! (p+0)).toNat< 128:=by rw [get_at s p h];omega
 unfold Utf8.decode at P2;simp only [h0,if_false] at P2;split at P2
 .rename_i h2;simp only [ao] at h2;split at P2
  .have:k=1:=by simp at P2;omega
   subst this;exact cont 1 (by simpa using h2.2)
  .simp at P2;omega
 .split at P2
  .rename_i _ h2;simp only [ao] at h2;split at P2
   .have:k=1\/k=2:=by simp at P2;omega
    rcases this with rfl| rfl;exact cont 1 (by simpa using h2.1.2);exact cont 2 (by simpa using h2.2)
   .simp at P2;omega
  .split at P2
   .rename_i _ _ h2;simp only [ao] at h2;split at P2
    .have:k=1\/k=2\/k=3:=by simp at P2;omega
     rcases this with rfl| rfl| rfl;exact cont 1 (by simpa using h2.1.1.2);exact cont 2 (by simpa using h2.1.2);exact cont 3 (by simpa using h2.2)
    .simp at P2;omega
   .simp at P2;omega
theorem V4 {c:UInt8} (h:128<=c.toNat):aay c=false:=by
 unfold aay;have h0:c≠0:=λe=>by subst e;simp at h
 have h1:c≠47:=λe=>by subst e;simp at h
 simp [h0,h1]
theorem N3 (s:ByteArray) (p:Nat):∀ n,(∀ k,k< n->∃ h':p+k< s.size,128<=(s[p+k]'h').toNat)->AE s p=AE s (p+n)
 | 0,_=>rfl
 | n+1,h=>by
  rw [N3 s p n λk hk=>h k (by omega)];obtain ⟨h',hb⟩:=h n (by omega);rw [Hj s (p+n) h',V4 hb];rfl
theorem Qh (s:ByteArray) (p:Nat) (h:p< s.size):1<=(Utf8.decode s p).2:=by
 by_cases ha:(s[p]'h).toNat< 128;rw [decode_ascii s p h ha];exact az _;exact (decode_high s p h (by omega)).2
theorem V5 (s:ByteArray) (p:Nat) (h:p< s.size):
  AE s p=((((Utf8.decode s p).1:Int)==0|| ((Utf8.decode s p).1:Int)==47)|| AE s (p+(Utf8.decode s p).2)):=by
 by_cases ha:(s[p]'h).toNat< 128
 .rw [decode_ascii s p h ha,Hj s p h];congr 1;unfold aay;have e:∀ m:Nat,m< 256->(s[p]==ax m)=(((s[p]).toNat:Int)==(m:Int)):=λm hm=>by
   rw [iE];simp only [beq_iff_eq,<-UInt8.toNat_inj,UInt8.toNat_ofNat'];omega
  exact congr (congrArg _ (e 0 (by omega))) (e 47 (by omega))
 .have ha':128<=(s[p]'h).toNat:=by omega
  obtain ⟨h1,h2⟩:=decode_high s p h ha';have e0:(((Utf8.decode s p).1:Int)==0)=false:=by simp;omega
  have e1:(((Utf8.decode s p).1:Int)==47)=false:=by simp;omega
  rw [e0,e1];simp only [Bool.or_self,jE];refine N3 s p _ λk hk=>?_;by_cases S5:k=0;subst S5;exact ⟨h,ha'⟩;exact Nv s p h ha' k (by omega) hk
end Go.LmN
namespace Go.LmN
open Go.Lm
open Go Go.RowKit

def ZB (s:ByteArray):Bool:=s.toList==(⟨#[]⟩:ByteArray).toList
def alF (s:ByteArray):Bool:=s.toList==(⟨#[46]⟩:ByteArray).toList
def ajq (s:ByteArray):Bool:=s.toList==(⟨#[46,46]⟩:ByteArray).toList
section
variable {ps acc:List ByteArray} {dir:Bool} {k:Int} {X:List ByteArray×Bool×Int}
end
end Go.LmN
namespace Go.LmN
open Go.Lm
open Go Go.RowKit

abbrev Row:=List (List UInt8)
def key (a:List ByteArray):Row:=a.map ByteArray.toList
theorem xV:∀ a b:List ByteArray,RW a b=decide (key a=key b)
 | [],[]=>rfl
 | [],_::_=>rfl
 | _::_,[]=>rfl
 | a::al,b::bs=>by
  show (Tb a b&& RW al bs)=decide (a.toList::key al=b.toList::key bs);rw [xV al bs];have:Tb a b=decide (a.toList=b.toList):=by unfold Tb;rw [iE];simp
  rw [this,iE];simp
end Go.LmN
namespace Go.LmN
open Go.Lm
open Go Go.RowKit

theorem MX:∀ {p:List UInt8},(47:UInt8) ∉ p->Lib.index p [47]= -1
 | [],_=>rfl
 | b::p,h=>by
  have hb:(b==47)=false:=by simp only [aX,not_or] at h;simpa using λe=>h.1 e.symm
  have hp:([47]:List UInt8).isPrefixOf (b::p)=false:=by simp [List.isPrefixOf];intro e;exact absurd e.symm (by simpa using hb)
  rw [Lib.index,hp,MX (λe=>h (aG _ e))];rfl
theorem Jh:∀ {p:List UInt8} (q:List UInt8),(47:UInt8) ∉ p->Lib.index (p++47::q) [47]=(p.length:Nat)
 | [],q,_=>by rw [eE,Lib.index];simp [List.isPrefixOf]
 | b::p,q,h=>by
  have hb:(b==47)=false:=by simp only [aX,not_or] at h;simpa using λe=>h.1 e.symm
  have hp:([47]:List UInt8).isPrefixOf (b::(p++47::q))=false:=by simp [List.isPrefixOf];intro e;exact absurd e.symm (by simpa using hb)
  rw [eB,Lib.index,hp,Jh q (λe=>h (aG _ e))];rw [if_neg (by simp),if_neg (by simp)];simp
theorem OI {p:List UInt8} (h:(47:UInt8) ∉ p):Lib.split p [47]= [p]:=by
 unfold Lib.split;rw [Lib.count_miss (MX h)];rfl
theorem UG {p q:List UInt8} (h:(47:UInt8) ∉ p):Lib.split (p++47::q) [47]=p::Lib.split q [47]:=by
 unfold Lib.split;have hd:(p++47::q).drop (p.length+1)=q:=by rw [List.drop_append];simp
 rw [Lib.count_hit (by simp) (Jh q h),show p.length+([47]:List UInt8).length=p.length+1 from rfl,hd,Nat.add_comm 1,Lib.splitK,Jh q h,if_neg (by simp)];rw [bm,j4,show p.length+([47]:List UInt8).length=p.length+1 from rfl,hd];simp
theorem aaB {a b:ByteArray} (h:a.data.toList=b.data.toList):a=b:=by
 cases a with| mk a=>cases b with| mk b=>simp at h;rw [h]
theorem JK:∀ {a b:List ByteArray},a.map (·.data.toList)=b.map (·.data.toList)->a=b
 | [],[],_=>rfl
 | [],_::_,h=>by simp at h
 | _::_,[],h=>by simp at h
 | x::a,y::b,h=>by
  simp only [cg,List.cons.injEq] at h;rw [aaB h.1,JK h.2]
section
variable {s last:ByteArray} {a k:Int} {acc:List ByteArray} {R:List ByteArray×Bool×Int}
end
theorem Zy (a b:ByteArray):Tb a b=(a.data.toList==b.data.toList):=by unfold Tb;rw [Lib.toList_data,Lib.toList_data]
theorem Nq (s:ByteArray):ZB s=(s.data.toList== []):=Zy s ⟨#[]⟩
end Go.LmN
namespace Go.LmN
open Go.Lm
open Go Go.RowKit

def jn:ByteArray->List ByteArray->ByteArray
 | acc,[]=>acc
 | acc,x::r=>jn (acc++⟨#[47]⟩++x) r
def jB (l:List ByteArray):ByteArray:=if l.length=0 then ⟨#[47]⟩ else jn ⟨#[]⟩ l
def jy (l:List ByteArray):List UInt8:=(l.map λx=>47::x.data.toList).flatten
theorem xC (a b:ByteArray):(a++b).data.toList=a.data.toList++b.data.toList:=by simp [ByteArray.data_append]
theorem SM:∀ (l:List ByteArray) (acc:ByteArray),(jn acc l).data.toList=acc.data.toList++jy l
 | [],acc=>by simp [jn,jy]
 | x::r,acc=>by
  show (jn (acc++⟨#[47]⟩++x) r).data.toList=_;rw [SM r,xC,xC];simp [jy]
theorem oJ (l:List ByteArray):(jB l).data.toList=if l.length=0 then [47] else jy l:=by
 unfold jB;split;rfl;rw [SM];rfl
theorem xP (l:List ByteArray) (h:l.length≠0):jy l=47::Lib.join (l.map (·.data.toList)) [47]:=by
 cases l with
 | nil=>simp at h
 | cons x r=>
  rw [cg,Lib.join_cons];have:∀ r:List ByteArray,jy r=Lib.joinTail [47] (r.map (·.data.toList)):=λr=>by simp [jy,Lib.joinTail];rfl
  rw [<-this];simp [jy]
theorem yQ (l:List ByteArray):(⟨#[47]⟩:ByteArray)++⟨(Lib.join (l.map (·.data.toList)) [47]).toArray⟩=jB l:=by
 apply aaB;rw [xC,oJ];split
 .rename_i h;obtain rfl:=aK h;simp [Lib.join_nil]
 .rename_i h;rw [xP l h];simp
theorem N4 (a b:ByteArray):(a++b).size=a.size+b.size:=by rw [gK,xC,af,<-gK,<-gK]
section
variable {l:List ByteArray} {k:Int} {acc R:ByteArray}
end
theorem Y1 (l:List ByteArray):(Lib.join (l.map (·.data.toList)) [47]).length<=(jB l).size:=by
 rw [<-yQ,N4];have:(⟨(Lib.join (l.map (·.data.toList)) [47]).toArray⟩:ByteArray).size=(Lib.join (l.map (·.data.toList)) [47]).length:=by rw [gK]
 omega
theorem Vr (l:List ByteArray):(jB l).size=1+(Lib.join (l.map (·.data.toList)) [47]).length:=by
 rw [<-yQ,N4];have:(⟨(Lib.join (l.map (·.data.toList)) [47]).toArray⟩:ByteArray).size=(Lib.join (l.map (·.data.toList)) [47]).length:=by rw [gK]
 rw [this];rfl
theorem LG {m:Nat}:∀ l:List ByteArray,(∀ x∈l,x.size<=m)->(jy l).length<=l.length*(m+1)
 | [],_=>by simp [jy]
 | x::r,h=>by
  have h1:=LG r λy hy=>h y (aG _ hy);have h2:=h x aS;have:(jy (x::r)).length=1+x.size+(jy r).length:=by have:=gK x;simp [jy];omega
  rw [this,aq,fj];omega
theorem LH:∀ l:List ByteArray,l.length<=(jy l).length
 | []=>by simp [jy]
 | x::r=>by
  have h1:=LH r;have:(jy (x::r)).length=1+x.size+(jy r).length:=by have:=gK x;simp [jy];omega
  rw [this,aq];omega
theorem Y3 {m:Nat} {l:List ByteArray} (h:∀ x∈l,x.size<=m):(jB l).size<=1+l.length*(m+1):=by
 rw [gK,oJ];split;simp;have:=LG l h;omega
theorem PM {g w:World} {v:Value} {l:List ByteArray} (h:Is g v l) (hs:bA g w) (hl:l≠ []):
  ∃ bk o c,v= .slice (some ⟨bk,o,none⟩) l.length c/\(∀ (j:Nat) x,l[j]?=some x->w.cell? ⟨bk,o+j,none⟩=some (.string x))/\bk< w.heap.size/\l.length<=c:=by
 rcases dx.1 h with ⟨_,e⟩| ⟨⟨bk,o,sp⟩,cap,hv,hc,_,hx⟩;exact absurd e hl
 .obtain ⟨x,r,rfl⟩:=List.exists_cons_of_ne_nil hl;have DR:sp=none:=by
   obtain ⟨cs,h1,h2,_⟩:=hx 0 x rfl;have k0:=h1 0 (.string x) (by rw [h2];rfl);have e:(Addr.mk bk o sp).add (0*aO.size ByteArray+0)=⟨bk,o,sp⟩:=by simp [Addr.add]
   rw [e] at k0;unfold World.cell? at k0;split at k0
   .split at k0
    .cases k0
    .rename_i hn;simpa using hn
   .cases k0
  subst DR;have key:∀ (j:Nat) y,(x::r)[j]?=some y->w.cell? ⟨bk,o+j,none⟩=some (.string y):=λj y hj=>by
   obtain ⟨cs,h1,h2,_⟩:=hx j y hj;have:=h1 0 (.string y) (by rw [h2];rfl);have e:(Addr.mk bk o none).add (j*aO.size ByteArray+0)=⟨bk,o+j,none⟩:=by
    simp [Addr.add,aO.size]
   rw [e] at this;exact hs _ _ this
  exact ⟨bk,o,cap,hv,key,World.block_lt_of_cell? w _ (key 0 x rfl),hc⟩
end Go.LmN
namespace Go.LmN
open Go.Lm
open Go Go.RowKit

theorem rY {x:ByteArray} (h:dA x=0):x.size<=255/\ZB x=false/\alF x=false/\ajq x=false/\(47:UInt8) ∉ x.data.toList:=by
 unfold dA at h;split at h;cases h
 .rename_i hs;split at h
  .cases h
  .rename_i hd;simp only [iD,not_or,Bool.not_eq_true] at hd;obtain ⟨h1,h2⟩:=hd;unfold aiL at h1;simp only [Bool.or_eq_false_iff] at h1;refine ⟨by omega,h1.1,h1.2.1,h1.2.2,λhm=>?_⟩;unfold AE at h2;rw [List.drop_zero,List.any_eq_false] at h2;exact absurd (h2 47 hm) (by decide)
theorem vb:∀ {l:List (List UInt8)},l≠ []->(∀ x∈l,(47:UInt8) ∉ x)->Lib.split (Lib.join l [47]) [47]=l
 | [],h,_=>absurd rfl h
 | [x],_,h=>by rw [Lib.join_one,OI (h x (by simp))]
 | x::y::r,_,h=>by
  have e:Lib.join (x::y::r) [47]=x++47::Lib.join (y::r) [47]:=by
   rw [Lib.join_cons,Lib.join_cons];simp [Lib.joinTail]
  rw [e,UG (h x (by simp)),vb (by simp) λz hz=>h z (aG _ hz)]
def aaH (l:List ByteArray):Prop:=∀ x∈l,dA x=0
theorem YW {p q:List ByteArray}:key p=key q↔p=q:=by
 refine ⟨λh=>JK ?_,λh=>by rw [h]⟩;have e:∀ l:List ByteArray,key l=l.map (·.data.toList):=λl=>by unfold key;exact gH λx _=>Lib.toList_data x
 rw [e,e] at h;exact h
theorem YH {p:List ByteArray} (hp:aaH p) (h:jy p= [47]):False:=by
 cases p with
 | nil=>simp [jy] at h
 | cons x r=>
  obtain ⟨_,h1,_⟩:=rY (hp x (by simp));rw [Nq] at h1;have e:jy (x::r)=47::(x.data.toList++jy r):=by simp [jy]
  rw [e] at h;have e2:x.data.toList++jy r= []:=by simpa using h
  have e3:x.data.toList= []:=(List.append_eq_nil_iff.1 e2).1;rw [e3] at h1;simp at h1
theorem Y2 {p q:List ByteArray} (hp:aaH p) (hq:aaH q):((jB p).toList==(jB q).toList)=RW p q:=by
 rw [Lib.toList_data,Lib.toList_data,xV,iE];simp only [beq_iff_eq,decide_eq_true_eq];rw [YW];refine ⟨λh=>?_,λh=>by rw [h]⟩;rw [oJ,oJ] at h;by_cases h1:p.length=0
 .rw [if_pos h1] at h;by_cases h2:q.length=0
  .rw [aK h1,aK h2]
  .rw [if_neg h2] at h;exact (YH hq h.symm).elim
 .rw [if_neg h1] at h;by_cases h2:q.length=0
  .rw [if_pos h2] at h;exact (YH hp h).elim
  .rw [if_neg h2,xP p h1,xP q h2] at h;have e:Lib.join (p.map (·.data.toList)) [47]=Lib.join (q.map (·.data.toList)) [47]:=by simpa using h
   have f:∀ l:List ByteArray,aaH l->∀ x∈l.map (·.data.toList),(47:UInt8) ∉ x:=λl hl x hx=>by
    obtain ⟨y,hy,rfl⟩:=aM.1 hx;exact (rY (hl y hy)).2.2.2.2
   have s1:=vb (l:=p.map (·.data.toList)) (by simpa using h1) (f p hp);have s2:=vb (l:=q.map (·.data.toList)) (by simpa using h2) (f q hq);exact JK (by rw [<-s1,<-s2,e])
theorem V8 {l:List ByteArray} (h:aaH l) (hl:l.length<=30):(jB l).size<=7681:=by
 have:=Y3 (m:=255) λx hx=>(rY (h x hx)).1;have h2:l.length*(255+1)<=30*256:=Nat.mul_le_mul hl (az _);omega
end Go.LmN

namespace Go.Lm
open Go
abbrev cR:Ty:=.pair .str (.pair (.int .i64) (.pair (.int .i64) .unit))
structure Oi (last:ByteArray) (x:cR.den):Prop where
 nm:dA x.1=0
 lt:lD last x.1=true
 k:1<=(x.2.1:Int)/\(x.2.1:Int)<=3
 r:0<=(x.2.2.1:Int)/\(x.2.2.1:Int)<=4294967295
def hU:ByteArray->List cR.den->Prop
 | _,[]=>True
 | last,x::r=>Oi last x/\hU x.1 r
def vQ (x:cR.den):List UInt8:=(ax x.1.size::x.1.data.toList)++(aJ 1 (x.2.1:Int).toNat++aJ 4 (x.2.2.1:Int).toNat)
def gR:List cR.den->List UInt8
 | []=>[]
 | x::r=>vQ x++gR r
theorem OD {z:ByteArray} (h:dA z=0):z.size<=255:=by
 unfold dA at h;split at h;cases h
 .rename_i hc;omega
theorem Db {last:ByteArray} {x:cR.den} (h:Oi last x):6<=(vQ x).length/\(vQ x).length<=261:=by
 have:=OD h.nm;unfold vQ;simp only [af,aq,aC,<-gU];omega
theorem Np:∀ (l:List cR.den) (x:cR.den),gR (l++ [x])=gR l++vQ x
 | [],x=>by show vQ x++ []= []++vQ x;rw [a7,eE]
 | y::l,x=>by show vQ y++gR (l++ [x])=vQ y++gR l++vQ x;rw [Np l x,aH]
theorem xm:∀ {last:ByteArray} {l:List cR.den},hU last l->(gR l).length<=261*l.length
 | _,[],_=>az _
 | _,x::r,⟨h1,h2⟩=>by
  have:=Db h1;have:=xm h2;show (vQ x++gR r).length<=261*(r.length+1);rw [af];omega
theorem XI {n:Nat} (h:n<=255):(ax n).toNat=n:=UInt8.toNat_ofNat_of_lt' (by show n< 256;omega)
theorem alQ {a b:ByteArray} (h:lD b a=true):(!(lD a b|| kR a b))=true:=by
 rw [show (lD a b|| kR a b)= !lD b a from Jb a b,h];rfl
theorem VH (n:ByteArray) (k r:Int) (u:Unit) (l:List cR.den):gR ((n,k,r,u)::l)=ax n.size::(n.data.toList++(aJ 1 k.toNat++(aJ 4 r.toNat++gR l))):=by
 show vQ (n,k,r,u)++gR l=_;unfold vQ;simp only [aH,eB]
end Go.Lm

namespace Go.Proofs
open Go Go.Lm Go.RowKit
set_option maxRecDepth 1000000
def xO:List (Nat×Ty):=(44,cR)::gV
def aen:Ct:=cS λs=>c0 λQ=>Q (.int (dA s)) []
def abe:=abf.add Ko
abbrev nw (y0:SV->List HO->Prop):=y0 (.v (.c (.k (.int .i64 22)))) []
abbrev oB (y0:SV->List HO->Prop):=y0 (.v (.c (.k bn))) []
def KE (s:ByteArray):dE:=λQ=>iQ s (br (decide ((iN s)>(255:Int))) (Q (.v (.c (.k (.int .i64 23)))) []) (br (kR s gY) (nw Q) (br (kR s (ByteArray.mk #[(46:UInt8)])) (nw Q) (br (kR s (ByteArray.mk #[(46:UInt8),(46:UInt8)])) 
 (nw Q) (ba (λi ag=>br (decide (i.2.1.2< ByteArray.size i.2.1.1)) (br ((↑(Utf8.decode i.2.1.1 i.2.1.2).1:Int)==0) (nw Q) (br ((↑(Utf8.decode i.2.1.1 i.2.1.2).1:Int)==47) (nw Q) (ag ((),(i.2.1.1,i.2.1.2+ 
 (Utf8.decode i.2.1.1 i.2.1.2).2),())))) (oB Q)) ((),(s,bC),()))))))
theorem QO:cM 153 aen:=fe<| Yx λs=>iB λQ h=>by
 refine Wp.dL abe xO ⟨[(7,⟨[],[(0,.ab .iter)]⟩)],[]⟩ Tryz.f153 (KE s) ?_;unfold KE oB gY iQ nw iN bn bC;intro hs;unfold dA Tf at h;refine aw (λh1=>?_) (λh1=>?_);rw [if_pos (by simpa using h1)] at h;exact h
 .rw [if_neg (by simpa using h1)] at h;have bad:∀ c,(kM s 0|| (kR s ⟨#[]⟩|| (kR s ⟨#[46]⟩|| kR s ⟨#[46,46]⟩)))=c->Q (.int (if c=true then 22 else 0)) []:=λc e=>e▸h
  refine aw (λh2=>bad true (by rw [h2];simp)) (λh2=>aw (λh3=>bad true (by rw [h3];simp)) (λh3=>aw (λh4=>bad true (by rw [h4];simp)) (λh4=>?_)));rw [h2,h3,h4] at bad;have ok:∀ c,kM s 0=c->Q (.int (if c=true then 22 else 0)) []:=λc e=>bad c (by rw [e];simp)
  refine ba.intro (λi=>i.2.1.1=s/\kM s i.2.1.2=kM s 0) (λi=>s.size - i.2.1.2) ⟨rfl,rfl⟩ ?_;rintro ⟨_,⟨z,p⟩,_⟩ ⟨rfl,hb⟩;simp only at hb ⊢;refine aw (λh5=>?_) (λh5=>?_)
  .have h5:p< z.size:=by simpa using h5
   have hr:kM z p=((((Utf8.decode z p).1:Int)==0|| ((Utf8.decode z p).1:Int)==47)|| kM z (p+(Utf8.decode z p).2)):=Go.LmN.V5 z p h5;have hd:=Go.LmN.Qh z p h5;refine aw (λh6=>ok true (by rw [<-hb,hr,h6];rfl)) (λh6=>aw (λh7=>ok true (by rw [<-hb,hr,h6,h7];rfl)) (λh7=>⟨⟨trivial,?_⟩,?_⟩))
   .rw [h6,h7] at hr;rw [<-hb,hr];rfl
   .omega
  .have h5:¬p< z.size:=by simpa using h5
   exact ok false (by rw [<-hb];exact Go.LmN.aaz z p h5)
def aag:Ct:=cN cR λx=>cS λlast=>c0 λQ=>Oi last x/\Q (.bool true) []
def abd:=abe.add QO
def Fo:((cR).den)->(ByteArray)->dE:=
 λx last Q=>iQ x.1 (cn x.2.1 x.2.2.1 (dC last (aI .i64 (dA x.1)->br (dA x.1==0) (br (!(lD x.1 last|| kR x.1 last)) (br (decide (x.2.1≥1)) (br (decide (x.2.1<=3)) (br (decide (x.2.2.1≥0)) (Q (.v (.c (.k 
 (.bool (decide (x.2.2.1<=4294967295)))))) []) (bq Q)) (bq Q)) (bq Q)) (bq Q)) (bq Q))))
theorem W9:cM 178 aag:=fe<| Va λx=>Yx λlast=>iB λQ h=>by
 refine Wp.dL abd xO ⟨[],[]⟩ Tryz.f178 (Fo x last) ?_;unfold Fo dC iQ cn bq jF aN;obtain ⟨⟨h1,h2,⟨k1,k2⟩,r1,r2⟩,h⟩:=h;rw [h1,alQ h2,decide_eq_true r2];exact λ_ _ _ _ _=>aw (λ_=>aw (λ_=>aw (λ_=>aw (λ_=>aw (λ_=>h) (λhc=>absurd r1 (of_decide_eq_false hc))) (λhc=>absurd k2 (of_decide_eq_false hc))) (λhc=>absurd k1 (of_decide_eq_false hc))) (λhc=>by cases hc)) (λhc=>by cases hc)
def N1:Ct:=cD cR λl=>c0 λQ=>(hU ⟨#[]⟩ l/\l.length<=1024)/\Q (.cZ [.c (.d .u8 (gR l)),.c (.k (.int .i64 0))]) []
def abc:=abd.add W9
abbrev F6 (y0) (y1) (y2:SV->List HO->Prop):=y0=ah/\List.length y1<=100000000000/\(aN (bQ y1)->aI .i64 0->y2 (SV.cZ [S1.c (Cl.d Ty.u8 y1),.c (.k bn)]) [])
abbrev gW (y0:List (cR).den) (y1):=aB cR y0 y1
def Fq (l:(List (cR).den)):dE:=λQ=>List.length l<=9223372036854775807->aN (List.length l)->ba (λi ag=>br (decide (i.1.1< (aF l))) (0<=i.1.1/\i.1.1< (aF l)/\(Ty.ok cR (gW l i.1.1)->Oi i.1.2.1 (gW l i.1.1)/\i.2.1.1=ah/\ 
 ByteArray.size (gW l i.1.1).1<=255/\List.length i.2.1.2.1<=1000000000/\pB ((ah<=(gW l i.1.1).2.1/\(gW l i.1.1).2.1< 256 ^ bJ)/\List.length (i.2.1.2.1++ax (ByteArray.size (gW l i.1.1).1):: 
 (gW l i.1.1).1.data.toList)<=100000000000/\bu ((a8<=cH/\cH<=cH)/\(ah<=(gW l i.1.1).2.2.1/\(gW l i.1.1).2.2.1< 256 ^ cX)/\List.length (i.2.1.2.1++ax (ByteArray.size (gW l i.1.1).1) 
 ::(gW l i.1.1).1.data.toList++aJ bJ (aA (gW l i.1.1).2.1))<=100000000000/\cG i.1.1 (ag ((i.1.1+1,(gW l i.1.1).1,()),(ah,i.2.1.2.1++ax (ByteArray.size (gW l i.1.1).1)::(gW l 
 i.1.1).1.data.toList++aJ bJ (aA (gW l i.1.1).2.1)++aJ cX (aA (gW l i.1.1).2.2.1),()),())))))) (F6 i.2.1.1 i.2.1.2.1 Q)) ((ah,ByteArray.mk #[],()),(ah,[],()),())
theorem Ky:cM 130 N1:=fe<| kC λl=>iB λQ h=>by
 refine Wp.lY [some (.sl .u8),none] [] ?_;refine Wp.dL abc xO ⟨[(5,⟨[(10,.int .i64),(5,.str)],[(0,.cells 174 [.int .i64,.own 5 .u8])]⟩)],[]⟩ Tryz.f130 (Fq l) ?_;unfold Fq gW bu pB F6 cG bQ bn ah a8 cH aF aN bJ cX;obtain ⟨⟨hl,hn⟩,h⟩:=h;refine λ_ _=>ba.intro (λi=>(0<=i.1.1/\i.1.1<=l.length)/\hU i.1.2.1 (l.drop i.1.1.toNat)/\i.2.1.1=0/\i.2.1.2.1=gR (l.take i.1.1.toNat)/\i.2.1.2.1.length<=261*i.1.1.toNat) (λi=>(l.length - i.1.1).toNat) ⟨⟨bp _,by show (0:Int)<=_;omega⟩,hl,rfl,rfl,az _⟩ ?_;rintro ⟨⟨j,last,_⟩,⟨c,x,_⟩,_⟩ ⟨⟨j0,j1⟩,h1,h2,h3,h4⟩;simp only at j0 j1 h1 h2 h3 h4 ⊢;subst h2;refine aw (λhc=>?_) (λhc=>?_)
 .have hc:j< (l.length:Int):=of_decide_eq_true hc;have ht:=ixT (e:=cR) j0 hc;rw [ixR (e:=cR) j0 hc] at h1;obtain ⟨y,hy⟩:∃ y,aB cR l j=y:=⟨_,rfl⟩;rw [hy] at h1 ht ⊢;obtain ⟨he,h1⟩:=h1;have hle:=Db he;have hz:=OD he.nm;have e:gR (l.take (j+1).toNat)=x++vQ y:=by rw [ht,Np,h3]
  obtain ⟨n,k,r,u⟩:=y;have hz:n.size<=255:=hz;obtain ⟨k0,k1⟩:=he.k;obtain ⟨r0,r1⟩:=he.r;have e2:x++ax n.size::n.data.toList++aJ 1 k.toNat++aJ 4 r.toNat=gR (l.take (j+1).toNat):=by rw [e];unfold vQ;simp only [aH]
  refine ⟨j0,hc,λ_=>⟨he,by trivial,hz,by omega,by trivial,⟨by decide,by decide⟩,⟨Int.le_trans (by decide) k0,Int.lt_of_le_of_lt k1 (by decide)⟩,?_,by trivial,⟨by decide,by decide⟩,⟨r0,Int.lt_of_le_of_lt r1 (by decide)⟩,?_,by unfold aI;omega,⟨⟨by omega,by omega⟩,h1,by trivial,e2,?_⟩,by omega⟩⟩;simp only [af,aq,<-gU];omega;simp only [af,aq,aC,<-gU];omega
  .show (x++ax n.size::n.data.toList++aJ 1 k.toNat++aJ 4 r.toNat).length<=261*(j+1).toNat
   rw [e2,e,af];omega
 .have hc:¬j< (l.length:Int):=of_decide_eq_false hc;rw [aV (by omega)] at h3;subst h3;exact ⟨by trivial,by omega,λ_ _=>⟨az _,h⟩⟩
def VY:Ct:=cD .u8 λb=>c0 λQ=>(∃ l,hU ⟨#[]⟩ l/\l.length<=1024/\b=gR l/\Q (.cZ [.c (.d cR l),.c (.k (.int .i64 0))]) [])
def abb:=abc.add Ky
abbrev Mo (y0) (y1):=(gk (List.take (cF y0) y1),bM (List.take bJ (List.drop (cF y0) y1)),bM (List.take cX (List.drop 1 (List.drop (cF y0) y1))),())
abbrev sB {A1:Type} (y0) (y1:List A1):=List.drop (cF y0) y1
def Bz (b:(List (Ty.u8).den)):dE:=λQ=>cW b (fp (dv b)/\ba (λi ag=>i.2.1.1=ah/\(aI .i64 (a6 i.2.1.2.1)->br (decide ((a6 i.2.1.2.1)>ah)) (bu (∃ z r,i.2.1.2.1=z::r/\cF z<=List.length r/\fp (bQ i.2.1.2.1)/\ 
 (aN (ByteArray.size (gk (mR z r)))->bu (a8<=a8/\a8<=cH/\a8<=(a6 (sB z r))/\fp (List.length (sB z r))/\(aI .i64 (bM (List.take bJ (sB z r)))->bu (a8<=cH/\cH<=cH/\ 
 cH<=(a6 (List.drop 1 (sB z r)))/\fp (List.length (List.drop 1 (sB z r)))/\(aI .i64 (bM (List.take cX (List.drop 1 (sB z r))))->aI .i64 0->Oi i.1.2.1 (Mo z r)/\(List.length i.1.1+List.length [(Mo z 
 r)])*32<=140737488355328/\List.length i.1.1+List.length [(Mo z r)]<=9223372036854775807/\ag ((i.1.1++ [(Mo z r)],gk (mR z r),()),(ah,List.drop cX (List.drop 1 (sB z r)),()),())))))))) (Q nv [.sl 44 
 cR i.1.1]))) (([],ByteArray.mk #[],()),(ah,b,()),()))
theorem EH:cM 151 VY:=fe<| kC λb=>iB λQ h=>by
 refine Wp.lY [some (.sl cR),none] [0] ?_;refine Wp.dL abb xO ⟨[(5,⟨[(5,.own 44 cR),(6,.str)],[(0,.cells 187 [.int .i64,.d .u8])]⟩)],[]⟩ Tryz.f151 (Bz b) ?_;unfold Bz bu sB mR dv nv Mo bQ cW bn ah a8 cH a6 fp aN bJ cX;obtain ⟨l,hl,hn,rfl,h⟩:=h;have hbl:=xm hl;refine λ_=>⟨by omega,ba.intro (λi=>∃ j,j<=l.length/\i.1.1=l.take j/\hU i.1.2.1 (l.drop j)/\i.2.1.1=0/\i.2.1.2.1=gR (l.drop j)) (λi=>i.2.1.2.1.length) ⟨0,cr _,rfl,hl,rfl,rfl⟩ ?_⟩;rintro ⟨⟨o,last,_⟩,⟨c,x,_⟩,_⟩ ⟨j,j1,h1,h2,h3,h4⟩;simp only at j1 h1 h2 h3 h4 ⊢;subst h1 h3 h4;have hj:(l.take j).length=j:=by rw [aD];omega
 refine ⟨by trivial,λ_=>?_⟩;rcases eQ j l.length with eJ| hge
 .rw [bO eJ] at h2 ⊢;have On:=xm h2;simp only [aq,aW] at On;obtain ⟨y,hy⟩:∃ y,l[j]=y:=⟨_,rfl⟩;have ht:l.take j++ [y]=l.take (j+1):=by rw [bZ eJ,hy]
  rw [hy] at h2 On ⊢;obtain ⟨he,h2⟩:=h2;have hle:=Db he;have hz:=OD he.nm;obtain ⟨n,k,r,⟨⟩⟩:=y;obtain ⟨k0,k1⟩:=he.k;obtain ⟨r0,r1⟩:=he.r;have hu:=XI hz;have hs:n.data.toList.length=n.size:=(gU n).symm;have e1:bM (aJ 1 k.toNat)=k:=eh (Int.le_trans (by decide) k0) (Int.lt_of_le_of_lt k1 (by decide));have e4:bM (aJ 4 r.toNat)=r:=eh r0 (Int.lt_of_le_of_lt r1 (by decide));rw [VH] at On ⊢;simp only [aq,af,aC] at On;refine aw (λ_=>⟨by trivial,_,_,rfl,?_⟩) (λhc=>absurd (of_decide_eq_false hc) (by simp only [aq];omega));rw [hu,List.take_left' hs,List.drop_left' hs,iH,iK,iH,iK,e1,e4,zg];refine ⟨by simp only [af];omega,by simp only [aq,af,aC];omega,λ_=>⟨by trivial,by decide,by decide,by simp only [af,aC];omega,by simp only [af,aC];omega,λ_=>⟨by trivial,by decide,by decide,by simp only [af,aC];omega,by simp only [af,aC];omega,λ_ _=>⟨he,by rw [hj,ay];omega,by rw [hj,ay];omega,⟨j+1,eJ,ht,h2,by trivial,by trivial⟩,?_⟩⟩⟩⟩;simp only [aq,af,aC];omega
 .rw [List.drop_of_length_le hge,aV hge];exact aw (λhc=>by cases hc) (λ_=>⟨cr _,h⟩)
end Go.Proofs

namespace Go.Lm
open Go Go.RowKit Go.Maps Go.WideShapes
section
variable {W:cV} {g w w':World} {l:List Atom} {et:TypeId} {size n:Nat} {v:Value} {xs:List Value}
theorem SL.fresh (H:SL W g w l) (e:Le w w') (ho:w'.ownsRow w.heap.size et size v n xs):SL W g w' (ur et size v n xs::l):=by
 obtain ⟨hl,⟨rfl,rfl⟩| ⟨k,cap,cur,rfl,hk,hb,r⟩⟩:=ho
 .have:xs= []:=aK (by simpa using hl);subst this;exact (H.le e).X7 et size
 .obtain ⟨h,be,s,ow,t⟩:=H;have hkn:h k=none:=by
   cases hx:h k with
   | none=>rfl
   | some x=>have:=uS (ow k x hx).2.1;omega
  have hni:tA g k:=λa ha=>by
   cases hc:g.cell? a with
   | none=>rfl
   | some x=>
    have h1:=World.block_lt_of_cell? w a (s.mono a x hc);omega
  refine ⟨Hp.join (λj=>if j=k then some (.cells cur et (0,0)) else none) h,e.QB be,s.le e,λj x hx=>?_,_,h,λj=>?_,rfl,⟨hl,.inr ⟨k,cap,cur,rfl,if_pos rfl,r⟩⟩,t⟩
  .unfold Hp.join at hx;by_cases q:j=k
   .subst q;simp at hx;subst hx;exact ⟨Nat.le_trans be.size hk,hb,hni⟩
   .simp [q] at hx;obtain ⟨o1,o2,o3⟩:=ow j x hx;exact ⟨o1,e.jG o2,o3⟩
  .by_cases q:j=k
   .subst q;exact .inr hkn
   .left;simp [q]
end
section
variable {P:Program} {I:cV->Prop} {f fk:FuncId} {Q:SV->List HO->Prop} {T:UTy} {q1 q2 nx:Int} {mb:Nat} {L:List (Int×rJ)}
end
end Go.Lm

namespace Go.Proofs
open Go Go.RowKit Go.Maps Go.Sort Go.Shelf Go.Lm
set_option maxRecDepth 1000000
def Tryz.Gu:Go.Shelf.Ren:=⟨fun| 7=>74| 10=>126| n=>n,fun| 23=>151| 26=>3| 3=>4| 28=>154| 0=>0| 27=>153| 33=>170| 4=>4| n=>n,fun| n=>n⟩
theorem Tryz.ak4:Go.Proofs.SlLaysZI.n7 ck Tryz.Gu:= {
 mixed:=by kernel_rfl
 f7:=⟨"maps.Keys[map[int]bool,int,bool]",by kernel_rfl,Tryz.func74.trans (congrArg some (by kernel_rfl))⟩
 f10:=⟨"maps.Keys[map[int]bool,int,bool]$1",by kernel_rfl,Tryz.func126.trans (congrArg some (by kernel_rfl))⟩
 t0:=Tryz.underlying0
 a0:=Tryz.isAgg0
 z0:=Tryz.sizeOf0
 v0:=Tryz.zeroValue0
 t4:=Tryz.underlying4
 a4:=Tryz.isAgg4
 z4:=Tryz.sizeOf4
 v4:=Tryz.zeroValue4
 t23:=Tryz.underlying151
 a23:=Tryz.isAgg151
 z23:=Tryz.sizeOf151
 v23:=Tryz.zeroValue151
 t26:=o5
 a26:=Tryz.isAgg3
 z26:=Tryz.sizeOf3
 v26:=Tryz.zeroValue3
 t27:=Tryz.underlying153
 a27:=Tryz.isAgg153
 z27:=Tryz.sizeOf153
 v27:=Tryz.zeroValue153
 t28:=Tryz.underlying154
 a28:=Tryz.isAgg154
 z28:=Tryz.sizeOf154
 v28:=Tryz.zeroValue154
 t33:=Tryz.underlying170
 a33:=Tryz.isAgg170
 z33:=Tryz.sizeOf170
 v33:=Tryz.zeroValue170}
def Tryz.BL:Go.Shelf.Ren:=⟨fun| 6=>73| 8=>124| 9=>125| 11=>171| n=>n,fun| 26=>3| 28=>154| 24=>29| 0=>0| 3=>4| 4=>4| 33=>170| n=>n,fun| n=>n⟩
theorem Tryz.ahF:Go.Proofs.SlLaysZI.n6 ck Tryz.BL:= {
 mixed:=by kernel_rfl
 f6:=⟨"slices.Sorted[int]",by kernel_rfl,Tryz.func73.trans (congrArg some (by kernel_rfl))⟩
 f8:=⟨"slices.Collect[int]",by kernel_rfl,Tryz.func124.trans (congrArg some (by kernel_rfl))⟩
 f11:=⟨"slices.AppendSeq[[]int,int]",by kernel_rfl,Tryz.func171.trans (congrArg some (by kernel_rfl))⟩
 t0:=Tryz.underlying0
 a0:=Tryz.isAgg0
 z0:=Tryz.sizeOf0
 v0:=Tryz.zeroValue0
 t24:=Tryz.underlying29
 a24:=Tryz.isAgg29
 z24:=Tryz.sizeOf29
 v24:=Tryz.zeroValue29
 t26:=o5
 a26:=Tryz.isAgg3
 z26:=Tryz.sizeOf3
 v26:=Tryz.zeroValue3
 t28:=Tryz.underlying154
 a28:=Tryz.isAgg154
 z28:=Tryz.sizeOf154
 v28:=Tryz.zeroValue154
 i26:=by kernel_rfl}
theorem ac0 (m:Nat):AnyZI.SortsIn ck Tryz.BL Fence.wide m:=
  ⟨λpg off cap ss W hH hblk kE=>callsIn_wide.2 (Tryz.slices_Sort_int pg off cap ss W hH hblk kE),
   λp cap W=>callsIn_wide.2 (Tryz.slices_Sort_int_none p cap W)⟩
theorem ak3 (w:World) (u ib:Nat) (D0:DataW Value) (hu:u< w.heap.size) (hc:w.cell? ⟨u,0,none⟩=some (.map (some ib))) (ho:w.ownsMap ck 3 eL ib (Maps.size D0) D0) (hs:Maps.size D0<=1099511627776):
  Calls ck 73 #[.func (.func 126) #[] #[.pointer (some ⟨u,0,none⟩)]] w λe w'=>∃ (v:Value) (ss:List Int),e= .returned v/\ss.Perm (intKeys D0)/\w'.ownsRow w.heap.size 3 1 v ss.length ((ss.mergeSort λx y=>decide (x<=y)).map encZ)/\Below w.heap.size w w':=by
 refine (callsIn_wide (n:=5)).1 ?_;have anB:SeqGives Fence.wide 2 ck 126 #[.pointer (some ⟨u,0,none⟩)] encZ (λss=>ss.Perm (intKeys D0)) (Maps.size D0) w:=
  AnyZI.keys_gives (ρ:=Tryz.Gu) {Tryz.ak4 with} Fence.wide _ trivial rfl (by omega) u ib _ D0 _ hu hc ho
 have cS:=AnyZI.sorted_in Tryz.ahF Fence.wide 5 trivial trivial trivial trivial rfl (by omega) (ac0 _) (enters_of Tryz.func125 (by kernel_rfl) rfl) 126 #[.pointer (some ⟨u,0,none⟩)] trivial (enters_of Tryz.func126 (by kernel_rfl) rfl) _ _ (by unfold maxLen;omega) (by omega) _ anB;exact cS.mono λe w' ⟨v,ss,h1,h2,h3,_,h4⟩=>⟨v,ss,h1,h2,h3,h4⟩
end Go.Proofs

namespace Go.Lm
open Go Go.RowKit Go.Maps Go.WideShapes
structure xE (xs ks:List Int):Prop where
 perm:xs.Perm ks
 J1:xs.Pairwise λa b=>a<=b
theorem LK {ks ss:List Int} (h:ss.Perm ks):xE (ss.mergeSort λx y=>decide (x<=y)) ks:=by
 refine ⟨(List.mergeSort_perm ss _).trans h,?_⟩;have h1:(ss.mergeSort λx y=>decide (x<=y)).Pairwise λx y=>decide (x<=y)=true:=List.pairwise_mergeSort (le:=λx y:Int=>decide (x<=y)) (λa b c h1 h2=>by
   simp only [decide_eq_true_eq] at h1 h2 ⊢;exact Int.le_trans h1 h2) (λa b=>by
   simp only [iD,decide_eq_true_eq];exact Int.le_total a b) ss
 exact h1.imp λh2=>by simpa using h2
theorem SQ (g:World):∀ (l:List Int),(∀ s∈l,(Lit.int .i64 s).wf=true)->eF (α:=(Ty.int .i64).den) g (l.map λs=>[Value.int .i64 s]) l
 | [],_=>trivial
 | s::l,h=>⟨⟨rfl,h s (by simp)⟩,SQ g l λx hx=>h x (by simp [hx])⟩
theorem CI {g:World} {k:Kk} {e:Ty}:∀ {l:List (k.den×Value)} {xs:List (k.den×e.den)},rH g k e l xs->xs.map (·.1)=l.map (·.1)
 | [],_,h=>by rw [show _= [] from h];rfl
 | p::l,_,⟨x,r,h1,_,h3⟩=>by rw [h1,cg,cg,CI h3]
section
variable {P:Program} {I:cV->Prop} {f fk:FuncId} {Q:SV->List HO->Prop}
theorem Wp.OJ {tK tM:TypeId} {e:Ty} {xs:List (Int×e.den)} (hkT:P.underlying tK=some (.int .i64))
  (hC:∀ (w:World) (u ib:Nat) (D0:DataW Value),u< w.heap.size->w.cell? ⟨u,0,none⟩=some (.map (some ib))->w.ownsMap P tK eL ib (Maps.size D0) D0->Maps.size D0<=1099511627776->
   Calls P f #[.func (.func fk) #[] #[.pointer (some ⟨u,0,none⟩)]] w λe w'=>∃ (v:Value) (ss:List Int),e= .returned v/\ss.Perm (intKeys D0)/\w'.ownsRow w.heap.size tK 1 v ss.length ((ss.mergeSort λx y=>decide (x<=y)).map encZ)/\Below w.heap.size w w')
  (hen:xs.length<=1099511627776)
  (hq:∀ ys,xE ys (xs.map (·.1))->Q (.c (.o 2)) [.cells tM [.m 1],.map tK .int e xs,.sl tK (.int .i64) ys]):
  Wp I P f [.v (.c (.fn fk [.p 0 0]))] [.cells tM [.m 1],.map tK .int e xs] Q:=by
 intro W hW g w E F vs S DQ;obtain ⟨a,rfl,us,⟨_,tF,rfl,hu,Vz⟩,rfl⟩:=tO DQ;obtain ⟨h0,be,se,ow,k1,k2,ap,rfl,⟨b,us,hE,hrel,hb⟩,k3,k4,ap2,rfl,⟨mb,m,hE1,hms,P',hkk,Eg⟩,s3⟩:=S.sl;have Eg:(mapA P tK mb m).sat g k3:=IZ (k:=.int) hkk (by unfold j7;rw [hkT]) Eg;obtain ⟨es,clock,e2,rep⟩:=Eg;obtain ⟨_,us2,rfl,⟨Ol,hE2,rfl⟩,Wn⟩:=hrel;obtain rfl:us2= []:=Wn;obtain rfl:tF= []:=Vz;have hmm:Ol=mb:=by rw [hE1] at hE2;simpa [ptr] using hE2.symm
 subst hmm;obtain ⟨b',hE',rfl⟩:=hu;rw [hE] at hE';obtain rfl:b=b':=by simpa [ptr] using hE'
 have hbb:w.heap[b]?=some (.cells #[.map (some Ol)] tM (0,0)):=by
  have a1:=Hp.eO.1 ap;exact (ow b _ (Hp.fK hb)).2.1
 have hmb:w.heap[Ol]?=some (.map es clock):=by
  refine (ow Ol _ ?_).2.1;rw [Hp.mq ?_];exact Hp.fK e2
  .rcases (Hp.eO.1 ap).1 Ol with q| q
   .exact q
   .rw [e2] at q;cases q
 have hxm:xs.map (·.1)=m.map (·.1):=CI (k:=.int) hms;have zZ:∀ z∈m.map (·.1),(Lit.int .i64 z).wf=true:=λz hz=>by
  obtain ⟨p,hp,rfl⟩:=aM.1 hz;have h1:kK p∈es.toList.map (Go.WideElems.rg P tK eL):=rep.perm.mem_iff.2 (aM.2 ⟨p,hp,rfl⟩);obtain ⟨x,hx,hxe⟩:=aM.1 h1;obtain ⟨kl,P3,xc⟩:=mN rep.fit hx;rw [xc] at hxe;have:kl=dF.lit p.1:=congrArg Prod.fst hxe;subst this;exact ((wZ hkT).inv _ _ P3).2
 have kE:es.size=m.length:=rep.size;have hlm:m.length=xs.length:=by have:=congrArg List.length hxm;simpa using this.symm
 have hD:Maps.size (H:=Value) (.map ((es.toList.map (Go.WideElems.rg P tK eL)).foldr DataW.insert []))=m.length:=by
  show ((es.toList.map (Go.WideElems.rg P tK eL)).foldr DataW.insert []).length=_;rw [(sorted_perm _).length_eq,bL];simpa using kE
 have M9:w.cell? ⟨b,0,none⟩=some (.map (some Ol)):=by
  simp [World.cell?,hbb]
 refine (hC w b Ol _ (uS hbb) M9 ⟨es,clock,hmb,rep.fit,?_,rfl⟩ ?_).mono λe w' ⟨v',ss,he,hp,rS,aoy⟩=>?_;rw [hD];omega;rw [hD];omega;have hp2:ss.Perm (xs.map (·.1)):=by
  refine hp.trans ?_;have h1:=((sorted_perm (H:=Value) (es.toList.map (Go.WideElems.rg P tK eL))).trans rep.perm).map λp=>Go.intOf p.1;refine h1.trans (List.Perm.of_eq ?_);rw [List.map_map,hxm];rfl
 have afs:=LK hp2;have hlen:(ss.mergeSort λx y=>decide (x<=y)).length=ss.length:=(List.mergeSort_perm ss _).length_eq;refine ⟨v',he,E++ [v'],g,.c (.o 2),_,bz.app _ _,bA.refl g,Sat.push (o:=.sl tK (.int .i64) (ss.mergeSort λx y=>decide (x<=y))) S.len ?_,?_,hq _ afs⟩
 .refine (S.sl.fresh aoy rS).cE λhh ⟨p1,p2,ap3,q3,sr,sF⟩=>⟨p1,p2,ap3,q3,⟨v',by rw [<-S.len];simp,(ss.mergeSort λx y=>decide (x<=y)).map (λs=>[Value.int .i64 s]),?_,?_⟩,sF⟩
  .exact SQ g _ λs hs=>zZ s (by rw [<-hxm];exact afs.perm.mem_iff.1 hs)
  .show (ur tK 1 v' (ss.mergeSort λx y=>decide (x<=y)).length _).sat g p1;rw [hlen];have e3:((ss.mergeSort λx y=>decide (x<=y)).map (λs=>[Value.int .i64 s])).flatten=(ss.mergeSort λx y=>decide (x<=y)).map encZ:=by
    induction (ss.mergeSort λx y=>decide (x<=y)) with
    | nil=>rfl
    | cons x l ih=>rw [cg,bF,ih];rfl
   rw [e3];exact sr
 .refine ⟨by rw [show (2:Nat)=E.length from S.len.symm];simp,?_⟩;rcases rS.2 with ⟨rfl,_⟩| ⟨k,cap,cur,rfl,_⟩
  .exact ⟨_,_,_,rfl⟩
  .exact ⟨_,_,_,rfl⟩
end
end Go.Lm

namespace Go.Lm
open Go
def wm (n:noTy.den):Int:=n.2.2.2.1.2.1
def AB (n:noTy.den):Int:=n.2.2.2.1.2.2.1
structure Oh (l:List noTy.den) (ys:List Int):Prop where
 J1:ys.Pairwise (· < ·)
 mem:∀ y,y∈ys↔∃ n∈l,y=wm n\/y=AB n
 len:ys.length<=2*l.length
structure Wi (l:List noTy.den) (M:List (Int×Bool)):Prop where
 nd:(M.map (·.1)).Nodup
 mem:∀ y,y∈M.map (·.1)↔∃ n∈l,y=wm n\/y=AB n
 len:M.length<=2*l.length
def gA (n:Nat) (l:List Int):List UInt8:=l.flatMap λx=>aJ n x.toNat
theorem j5 (n:Nat):∀ l:List Int,(gA n l).length=n*l.length
 | []=>by simp [gA]
 | x::l=>by
  have:=j5 n l;unfold gA at*;rw [kq,af,aC,this,aq,Nat.mul_succ];omega
theorem Vb (n:Nat) (l:List Int) (x:Int):gA n (l++ [x])=gA n l++aJ n x.toNat:=by
 unfold gA;rw [List.flatMap_append];simp
theorem CA (M:List (Int×Bool)) (k:Int) (v:Bool):(Kk.put .int M k v:List (Int×Bool)).map (·.1)=k::(M.map (·.1)).filter (λx=> !decide (x=k)):=by
 show k::(List.map (·.1) (List.filter (λp:Int×Bool=> !decide (p.1=k)) M))=_;congr 1;rw [List.filter_map];rfl
theorem Yj {M:List (Int×Bool)} (h:(M.map (·.1)).Nodup) (k:Int) (v:Bool):((Kk.put .int M k v:List (Int×Bool)).map (·.1)).Nodup:=by
 rw [CA];exact eD.2 ⟨by simp,h.filter _⟩
theorem Sf (M:List (Int×Bool)) (k:Int) (v:Bool) (y:Int):y∈(Kk.put .int M k v:List (Int×Bool)).map (·.1)↔y=k\/y∈M.map (·.1):=by
 rw [CA,aX,fQ];by_cases e:y=k;simp [e];simp [e]
theorem Cz (M:List (Int×Bool)) (k:Int) (v:Bool):(Kk.put .int M k v:List (Int×Bool)).length<=M.length+1:=by
 have:=congrArg List.length (CA M k v);rw [bL,aq] at this;rw [this];have:=List.length_filter_le (λx=> !decide (x=k)) (M.map (·.1));rw [bL] at this;omega
theorem Wi.step {l:List noTy.den} {M:List (Int×Bool)} (h:Wi l M) (n:noTy.den):Wi (l++ [n]) (Kk.put .int (Kk.put .int M (wm n) true:List (Int×Bool)) (AB n) true):=by
 refine ⟨Yj (Yj h.nd _ _) _ _,λy=>?_,?_⟩
 .rw [Sf,Sf,h.mem];constructor
  .rintro (e| e| ⟨m,hm,e⟩)
   .exact ⟨n,by simp,.inr e⟩
   .exact ⟨n,by simp,.inl e⟩
   .exact ⟨m,by simp [hm],e⟩
  .rintro ⟨m,hm,e⟩;rcases aY.1 hm with hm| hm
   .exact .inr (.inr ⟨m,hm,e⟩)
   .obtain rfl:m=n:=by simpa using hm
    rcases e with e| e;exact .inr (.inl e);exact .inl e
 .have h1:=Cz (Kk.put .int M (wm n) true:List (Int×Bool)) (AB n) true;have h2:=Cz M (wm n) true;have h3:=h.len;rw [af,ay];omega
theorem Wi.ids {l:List noTy.den} {M:List (Int×Bool)} (h:Wi l M) {ys:List Int} (hs:xE ys (M.map (·.1))):Oh l ys:=by
 refine ⟨?_,λy=>by rw [hs.perm.mem_iff];exact h.mem y,by rw [hs.perm.length_eq,bL];exact h.len⟩;have hn:ys.Nodup:=hs.perm.nodup_iff.2 h.nd;refine List.Pairwise.imp₂ (λa b h1 h2=>?_) hs.J1 hn;have h1:a<=b:=h1;have h2:a≠b:=h2;omega
theorem ane (fs:List (List UInt8)):(0:Int)=(dV fs 0:Nat):=by unfold dV;simp
theorem Py (n:Nat) {l:List Int} {j:Nat} (h:j< l.length):((gA n l).drop (n*j)).take n=aJ n (l[j]).toNat:=by
 have e:l=l.take j++l[j]::l.drop (j+1):=by rw [<-bO h,bY]
 have e2:gA n l=gA n (l.take j)++(aJ n (l[j]).toNat++gA n (l.drop (j+1))):=by
  conv=>lhs;rw [e]
  unfold gA;rw [List.flatMap_append,kq]
 rw [e2,List.drop_left' (by rw [j5,aD,eP (Nat.le_of_lt h)]),List.take_left' (aC _ _)]
theorem afd {n:Int} (h:n=2\/n=4):(1<=n/\n<=4)/\(1<=n.toNat/\n.toNat<=4):=by omega
end Go.Lm

namespace Go.Proofs
open Go Go.Lm Go.RowKit
set_option maxRecDepth 1000000
def TA:Ct
 | [.v (.c (.m 0))],[.map 3 .int .bool M],Q=>Q (.c (.fn 126 [.p 1 0])) [.map 3 .int .bool M,.cells 151 [.m 0]]
 | _,_,_=>False
def aba:=abb.add EH
def K9 (M:(List (Int×Bool))):dE:=λQ=>Q (SV.v (S1.c (Cl.fn (126:Nat) [.p 1 0]))) [HO.map (3:TypeId) Kk.int Ty.bool M,.cells 151 [Cl.m bC]]
theorem acH:cM 74 TA:=by
 intro args H Q h;unfold TA at h;split at h;rotate_left;cases h;rename_i M;refine Wp.dL aba xO ⟨[],[]⟩ Tryz.f74 (K9 M) ?_;unfold K9 bC;exact h
def Tp:Ct
 | [.v (.c (.fn 126 [.p 0 0]))],[.cells 151 [.m 1],.map 3 .int .bool M],Q=>M.length<=1099511627776/\∀ ys,xE ys (M.map (·.1))->Q (.c (.o 2)) [.cells 151 [.m 1],.map 3 .int .bool M,.sl 3 (.int .i64) ys]
 | _,_,_=>False
theorem aci:cM 73 Tp:=by
 intro args H Q h;unfold Tp at h;split at h;exact Wp.OJ (tM:=151) o5 ak3 h.1 h.2;cases h
def xN:List (Nat×Ty):=(38,noTy)::xO
def al5:Ct:=cD noTy λl=>c0 λQ=>l.length<=1100/\∀ ys,Oh l ys->Q (.c (.d (.int .i64) ys)) []
def aa9:=(aba.add acH).add aci
abbrev gn (y0:List (noTy).den) (R:Prop):=List.length y0<=9223372036854775807->R
abbrev dh (y0:List (noTy).den) (y1):=aB noTy y0 y1
abbrev iP (y0) (y1:List (noTy).den) (R:Prop):=0<=y0/\y0< (aF y1)/\R
abbrev iO (y0) (y1:List (noTy).den):=decide (y0< (aF y1))
def Xp (l:(List (noTy).den)):dE:=λQ=>gn l (aN (List.length l)->ba (λi ag=>br (iO i.1.1 l) (iP i.1.1 l (Ty.ok noTy (dh l i.1.1)->l9 i.2.1 (List.length (Kk.put Kk.int i.2.1 (dh l i.1.1).2.2.2.1.2.1 true)< 9223372036854775807/\cG 
 i.1.1 (ag ((i.1.1+1,()),Kk.put Kk.int (Kk.put Kk.int i.2.1 (dh l i.1.1).2.2.2.1.2.1 true) (dh l i.1.1).2.2.2.1.2.2.1 true,()))))) (List.length i.2.1<=1099511627776/\∀ (ys:List Int),xE ys (List.map (λx=>x.1) 
 i.2.1)->Q gd [.sl 3 bw ys])) ((ah,()),[],()))
theorem ae2:cM 48 al5:=fe<| kC λl=>iB λQ h=>by
 refine Wp.lY [some (.sl (.int .i64))] [0] ?_;refine Wp.dL aa9 xN ⟨[(4,⟨[(9,.int .i64)],[(0,.map 3 .int .bool)]⟩)],[]⟩ Tryz.f48 (Xp l) ?_;unfold Xp iO iP gd l9 dh cG gn ah aF aN bw;obtain ⟨hl,h⟩:=h;refine λ_ _=>ba.intro (λi=>(0<=i.1.1/\i.1.1<=l.length)/\Wi (l.take i.1.1.toNat) i.2.1) (λi=>(l.length - i.1.1).toNat) ⟨⟨bp _,by show (0:Int)<=_;omega⟩,⟨List.nodup_nil,λy=>by simp,cr _⟩⟩ ?_;rintro ⟨⟨j,_⟩,M,_⟩ ⟨⟨j0,j1⟩,h1⟩;simp only at j0 j1 h1 ⊢;have hm:=h1.len;rw [aD] at hm;refine aw (λhc=>?_) (λhc=>?_)
 .have hc:j< (l.length:Int):=of_decide_eq_true hc;have hs:=h1.step (aB noTy l j);rw [<-ixT (e:=noTy) j0 hc] at hs;have hp:=Cz M (wm (aB noTy l j)) true;exact ⟨j0,hc,λ_=>⟨by omega,Nat.lt_of_le_of_lt hp (by omega),by unfold aI;omega,⟨⟨by omega,by omega⟩,hs⟩,by omega⟩⟩
 .have hc:¬j< (l.length:Int):=of_decide_eq_false hc;rw [aV (by omega)] at h1;exact ⟨by omega,λys hy=>⟨cr _,h ys (h1.ids hy)⟩⟩
def ajb:Ct:=cI λn=>c0 λQ=>(n=2\/n=4)/\Q (.bool true) []
def aa8:=aa9.add ae2
def Ry (n:Int):dE:=λQ=>aI .i64 n->br (n==2) (Q oZ []) (Q (.v (.c (.k (.bool (n==4))))) [])
theorem ahk:cM 85 ajb:=fe<| nK λn=>iB λQ h=>by
 refine Wp.dL aa8 xN ⟨[],[]⟩ Tryz.f85 (Ry n) ?_;unfold Ry oZ;obtain ⟨hn,h⟩:=h;refine λ_=>aw (λ_=>h) (λhc=>?_);have:n=4:=by rcases hn with e| e;rw [e] at hc;cases hc;exact e
 rw [this];exact h
def VP:Ct:=cD (Ty.int .i64) λl=>cI λn=>c0 λQ=>(n=2\/n=4)/\(∀ x∈l,0<=x/\x< 256 ^ n.toNat)/\l.length<=100000/\Q (.cZ [.c (.d .u8 (gA n.toNat l)),.c (.k (.int .i64 0))]) []
def aa7:=aa8.add ahk
def Bj (l:(List ((Ty.int .i64)).den)) (n:Int):dE:=λQ=>ik l (aI .i64 n->(n=du\/n=cH)/\(aN (List.length l)->ba (λi ag=>br (decide (i.1.1< (aF l))) (0<=i.1.1/\i.1.1< (aF l)/\(Ty.ok bw (aB bw l i.1.1)->i.2.1.1=ah/\(1<=n/\n<=4)/\(0 
 <=aB bw l i.1.1/\aB bw l i.1.1< 256 ^ aA n)/\List.length i.2.1.2.1<=100000000000/\cG i.1.1 (ag ((i.1.1+1,()),(ah,i.2.1.2.1++aJ (bc n) (aA (aB bw l i.1.1)),()),())))) (F6 i.2.1.1 i.2.1.2.1 
 Q)) ((ah,()),(ah,[],()),())))
theorem Ew:cM 53 VP:=fe<| kC λl=>nK λn=>iB λQ h=>by
 refine Wp.lY [some (.sl .u8),none] [] ?_;refine Wp.dL aa7 xN ⟨[(6,⟨[(14,.int .i64)],[(0,.cells 174 [.int .i64,.own 5 .u8])]⟩)],[]⟩ Tryz.f53 (Bj l n) ?_;unfold Bj ik F6 cG bQ bn bc ah du cH aF aN bw;obtain ⟨hn,hx,hl,h⟩:=h;obtain ⟨h14,n1,n4⟩:=afd hn;refine λ_ _=>⟨hn,λ_=>ba.intro (λi=>(0<=i.1.1/\i.1.1<=l.length)/\i.2.1.1=0/\i.2.1.2.1=gA n.toNat (l.take i.1.1.toNat)) (λi=>(l.length - i.1.1).toNat) ⟨⟨bp _,by show (0:Int)<=_;omega⟩,rfl,rfl⟩ ?_⟩;rintro ⟨⟨j,_⟩,⟨c,x,_⟩,_⟩ ⟨⟨j0,j1⟩,h1,h2⟩;simp only at j0 j1 h1 h2 ⊢;subst h1;have hxl:x.length<=4*l.length:=by
  rw [h2,j5,aD];exact Nat.mul_le_mul n4 (Nat.min_le_right _ _)
 refine aw (λhc=>?_) (λhc=>?_)
 .have hc:j< (l.length:Int):=of_decide_eq_true hc;have hm:=hx _ (rO (e:=.int .i64) j0 hc);exact ⟨j0,hc,λ_=>⟨by trivial,h14,hm,by omega,by unfold aI;omega,⟨⟨by omega,by omega⟩,by trivial,by rw [ixT (e:=.int .i64) j0 hc,Vb,h2]⟩,by omega⟩⟩
 .have hc:¬j< (l.length:Int):=of_decide_eq_false hc;rw [aV (by omega)] at h2;subst h2;exact ⟨by trivial,by omega,λ_ _=>⟨az _,h⟩⟩
def Qt:Ct:=cP<| cI λm=>cI λn=>cO λH Q=>match H with
 | [.abs A]=>∃ fs R,RB A fs R/\(n=2\/n=4)/\∃ l:List Int,(∀ x∈l,0<=x/\x< 256 ^ n.toNat)/\R=gA n.toNat l/\m=l.length/\l.length<=100000/\∀ A',RB A' fs R->Q (.cZ [.c (.d (.int .i64) l),.c (.k (.int .i64 0))]) [.abs A']
 | _=>False
def aa6:=aa7.add Ew
abbrev Yd (y0:Int) (y1:SV->List HO->Prop) (y2) (y3) (y4):=br (y0 !=0) (y1 (.cZ [.c (.k cA),.c (.k (.int .i64 2))]) [HO.abs y2]) (∃ fs R,RB y2 fs R/\∃ o,o<=List.length R/\y3=(↑(dV fs o):Int)/\(ah<=a8/\a8<=(10000000:Int))/\∀ (A':Value->Atom) (z:List UInt8) (nx e:Int),RB A' fs R->pn fs R o bJ z nx e->aN (List.length z)->aI .i64 nx->aI .i64 e->br (e==0) (y1 (.cZ [.c (.k cA),.c (.k (.int .i64 2))]) [HO.abs A']) (y1 (SV.cZ [S1.c (.o 1),.c (.k bn)]) [HO.abs A',.sl 3 bw y4]))
def zA (m n:Int) (A:Value->Atom):dE:=λQ=>cn m n (br (dj m) (Q rn [HO.abs A]) ((n=du\/n=cH)/\∃ fs R,RB A fs R/\∃ o,o<=List.length R/\ah=(↑(dV fs o):Int)/\(ah<=ah/\ah<=(10000000:Int))/\∀ (A':Value->Atom) (z: 
 List UInt8) (nx e:Int),RB A' fs R->pn fs R o bC z nx e->db z (cn nx e (ba (λi ag=>fU i.1.1 (br (decide ((a6 i.1.1)< m)) (br (i.1.2.2.1==0) (∃ fs R,RB i.2.1 fs R/\∃ o,vw o R i.1.2.1 fs n (∀ (A': 
 Value->Atom) (z:List UInt8) (nx e:Int),RB A' fs R->pn fs R o (bc n) z nx e->db z (cn nx e (br (e==0) (fp (List.length z)/\bu (1<=n/\n<=4/\n<=(aF z)/\fp (List.length z)/\(aI .i64 (bM (ma n z)) 
 ->(List.length i.1.1+List.length [bM (ma n z)])*8<=cC/\List.length i.1.1+List.length [bM (ma n z)]<=9223372036854775807/\ag ((i.1.1++ [bM (ma n z)],nx,e,()),A',())))) (ag ((i.1.1,nx,e,()),A', 
 ())))))) (Yd i.1.2.2.1 Q i.2.1 i.1.2.1 i.1.1)) (Yd i.1.2.2.1 Q i.2.1 i.1.2.1 i.1.1))) (([],nx,e,()),A',())))))
theorem Ba:cM 104 Qt:=fe<| rK<| nK λm=>nK λn=>rM λH Q h=>by
 split at h;rotate_left;cases h;rename_i A;refine Wp.lY [some (.sl (.int .i64)),none] [1] ?_;refine Wp.dL aa6 xN ⟨[(6,⟨[(11,.own 3 (.int .i64)),(9,.int .i64),(10,.int .i64)],[(0,.abs)]⟩)],[]⟩ Tryz.f104 (zA m n A) ?_;unfold zA bu vw ma db dj cn rn fU Yd cC cA bn bc ah a8 du cH a6 aF fp aN bC bJ bw;obtain ⟨fs,R,hR,hn,l,hx,rfl,rfl,hl,h⟩:=h;obtain ⟨h14,n1,n4⟩:=afd hn;have hBl:=j5 n.toNat l;refine λ_ _=>aw (λhc=>absurd (of_decide_eq_true hc) (by omega)) (λ_=>⟨hn,fs,_,hR,0,cr _,ane fs,⟨by decide,by decide⟩,λA' z nx e hR hz _ _ _=>?_⟩);obtain ⟨rfl,rfl,rfl⟩:=hz.ok (cr _);refine ba.intro (λi=>∃ j,j<=l.length/\i.1.1=l.take j/\i.1.2.1=(dV fs (n.toNat*j):Nat)/\i.1.2.2.1=0/\RB i.2.1 fs (gA n.toNat l)) (λi=>l.length - i.1.1.length) ⟨0,cr _,rfl,by rw [Nat.mul_zero],rfl,hR⟩ ?_;rintro ⟨⟨o,at',e,_⟩,A',_⟩ ⟨j,hj,h1,h2,h3,hR⟩;simp only at hj h1 h2 h3 hR ⊢;subst h1 h2 h3;have Oo:(l.take j).length=j:=by rw [aD];omega
 have hnj:n.toNat*j<=n.toNat*l.length:=Nat.mul_le_mul_left _ hj;rw [Oo];refine λ_=>aw (λhc=>aw (λ_=>?_) (λq=>by cases q)) (λhc=>aw (λq=>by cases q) (λ_=>?_))
 .have hc:(j:Int)< l.length:=of_decide_eq_true hc;have Na:j< l.length:=by omega
  have hj1:n.toNat*j+n.toNat<=(gA n.toNat l).length:=by
   rw [hBl];have:=Nat.mul_le_mul_left n.toNat (show j+1<=l.length by omega);rw [Nat.mul_succ] at this;exact this
  refine ⟨fs,_,hR,_,by rw [hBl];exact hnj,rfl,⟨by omega,by omega⟩,λA' z nx e hR hz _ _ _=>?_⟩;obtain ⟨rfl,rfl,rfl⟩:=hz.ok hj1;have hb:=hx _ (df Na);rw [Py n.toNat Na];have On:=aC n.toNat (l[j]).toNat
  rw [aV (Nat.le_of_eq On),eh hb.1 hb.2];have e2:l.take j++ [l[j]]=l.take (j+1):=(bZ Na).symm;exact aw (λ_=>⟨by omega,by trivial,h14.1,h14.2,by omega,by omega,λ_=>⟨by simp only [ay];omega,by simp only [ay];omega,⟨j+1,Na,e2,by rw [Nat.mul_succ],by trivial,hR⟩,by rw [af,Oo,ay];omega⟩⟩) (λq=>by cases q)
 .have hc:¬(j:Int)< l.length:=of_decide_eq_false hc;obtain rfl:j=l.length:=by omega
  refine ⟨fs,_,hR,_,by rw [hBl];exact az _,rfl,⟨by decide,by decide⟩,λA' z nx e hR hz _ _ _=>?_⟩;rcases hz.or with ⟨q,_⟩| ⟨_,rfl,rfl,rfl⟩;rw [hBl] at q;omega
  .rw [ff];exact aw (λq=>by cases q) (λ_=>⟨by show 1<=2;decide,h A' hR⟩)
end Go.Proofs

namespace Go.Lm
open Go
def wq (t:List UInt8):List UInt8:=ax t.length::t
def gu (l:List (List UInt8)):List UInt8:=l.flatMap wq
def xaL (x:uT):List (List UInt8):=[x.1.data.toList,x.2.1]
def pt (l:List uT):List (List UInt8):=l.flatMap xaL
def xsB (l:List uT):List UInt8:=aJ 1 l.length++gu (pt l)
structure ams (l:List uT) (z:List UInt8) (e:Int):Prop where
 or:(l= []/\z= []/\e=1)\/(l≠ []/\z=xsB l/\e=0)
theorem uZ (l m:List (List UInt8)):gu (l++m)=gu l++gu m:=by unfold gu;exact List.flatMap_append
theorem zG (t:List UInt8) (l:List (List UInt8)):gu (t::l)=wq t++gu l:=rfl
theorem uY:∀ {l:List (List UInt8)},(∀ t∈l,t.length<=255)->(gu l).length<=256*l.length
 | [],_=>az _
 | t::l,h=>by
  have h1:=h t aS;have h2:=uY (l:=l) λx hx=>h x (aG _ hx);rw [zG,af];unfold wq;simp only [aq];omega
theorem J7 (l m:List uT):pt (l++m)=pt l++pt m:=by unfold pt;exact List.flatMap_append
theorem od:∀ l:List uT,(pt l).length=2*l.length
 | []=>rfl
 | x::l=>by
  have:=od l;show (xaL x++pt l).length=_;rw [af,this,aq];show 2+_=_;omega
theorem aax {x:uT} {last:ByteArray} (h:vV x last=false):1<=x.1.size/\x.1.size<=40/\x.2.1.length<=200:=by
 unfold vV oE gS at h;simp only [Bool.or_eq_false_iff,Bool.not_eq_false',ao,decide_eq_true_eq,decide_eq_false_iff_not] at h;omega
theorem v7:∀ {l:List uT} {last:ByteArray},fG l last=true->∀ x∈l,1<=x.1.size/\x.1.size<=40/\x.2.1.length<=200
 | y::l,last,h,x,hx=>by
  unfold fG at h;split at h;cases h
  .rename_i hb;rcases aX.1 hx with rfl| hx
   .exact aax (by simpa using hb)
   .exact v7 h x hx
theorem o7 {l:List uT} (h:dI l=true):(∀ x∈l,1<=x.1.size/\x.1.size<=40/\x.2.1.length<=200)/\l.length<=8:=by
 unfold dI at h;simp only [ao,decide_eq_true_eq] at h;exact ⟨v7 h.1,by omega⟩
theorem Hu {l:List uT} (h:∀ x∈l,1<=x.1.size/\x.1.size<=40/\x.2.1.length<=200):∀ t∈pt l,t.length<=255:=λt ht=>by
 unfold pt at ht;obtain ⟨x,hx,hm⟩:=List.mem_flatMap.1 ht;have:=h x hx;unfold xaL at hm;simp only [aX,List.not_mem_nil,or_false] at hm;rcases hm with rfl| rfl;rw [<-gU];omega;omega
theorem aeP (l:List UInt8):(gk l).size=l.length:=by simp [gk,ByteArray.size]
theorem tm (l:List UInt8):(gk l).data.toList=l:=by simp [gk]
theorem Ox (x:uT):gu (xaL x)=ax x.1.size::x.1.data.toList++ax x.2.1.length::x.2.1:=by
 show wq x.1.data.toList++(wq x.2.1++ [])=_;unfold wq;rw [a7,<-gU]
theorem Er:∀ {l:List uT} {k:Nat} (h:k< l.length),((pt l).drop (k*2)).take 2= [(l[k]).1.data.toList,(l[k]).2.1]
 | x::l,0,_=>rfl
 | x::l,k+1,h=>by
  have:=Er (l:=l) (k:=k) (by simpa using h);rw [show (k+1)*2=2+k*2 by omega,<-iC];exact this
end Go.Lm

namespace Go.Proofs
open Go Go.Lm Go.RowKit
set_option maxRecDepth 1000000
theorem adD {a b:ByteArray} (h:Go.Lm.leB a b=false):1<=(a.size:Int):=by
 rw [Jb] at h;have h1:lD b a=true:=by simpa using h
 unfold lD at h1;rw [gU];rw [Lib.toList_data,Lib.toList_data] at h1;cases hq:a.data.toList with
 | nil=>rw [hq] at h1;cases hb:b.data.toList<;>rw [hb] at h1<;>cases h1
 | cons c l=>simp only [aq];omega
theorem Hi (x:uT) (last:ByteArray):vV x last=(Go.Lm.leB x.1 last|| (decide ((x.1.size:Int)>40)|| (decide (Lib.indexByte x.1.data.toList 0≥0)|| decide ((x.2.1.length:Int)>200)))):=by
 unfold vV oE gS Ss;cases hl:Go.Lm.leB x.1 last with
 | true=>simp
 | false=>
  have:=adD hl;rw [iE];simp only [iD,bG,Bool.and_eq_false_iff,decide_eq_false_iff_not,decide_eq_true_eq,dP,or_false,false_or];omega
def ai3:Ct:=cD dJ λl=>c0 λQ=>Q (.bool (dI l)) []
def aa5:=aa6.add Ba
abbrev ID (y0:List (dJ).den) (y1) (y2:SV->List HO->Prop) (y3:_->Prop):=List.length (aB dJ y0 y1).2.1<=9223372036854775807->br (decide ((↑(List.length (aB dJ y0 y1).2.1):Int)>(200:Int))) (bq y2) (cG y1 (y3 ((y1+1,(aB dJ y0 y1).1,()),())))
abbrev yu (y0:List (dJ).den) (y1:SV->List HO->Prop):=aN (List.length y0)->y1 (.v (.c (.k (.bool (decide ((aF y0)<=iA)))))) []
abbrev dW (y0:List (dJ).den) (y1):=aB dJ y0 y1
abbrev l6 (y0:List (dJ).den) (R:Prop):=List.length y0<=9223372036854775807->R
abbrev sq (y0:List (dJ).den) (y1):=ByteArray.size (dW y0 y1).1
def Rp (l:(List (dJ).den)):dE:=λQ=>l6 l (aN (List.length l)->ba (λi ag=>br (decide (i.1.1< (aF l))) (0<=i.1.1/\i.1.1< (aF l)/\(Ty.ok dJ (dW l i.1.1)->br (lD (dW l i.1.1).1 i.1.2.1|| kR (dW l i.1.1).1 i.1.2.1) (bq Q) (br 
 (decide ((↑(sq l i.1.1):Int)>(40:Int))) (bq Q) (aI .i64 (Lib.indexByte (dW l i.1.1).1.data.toList (Nat.toUInt8 bC))->br (decide (Lib.indexByte (dW l i.1.1).1.data.toList (Nat.toUInt8 bC)≥0)) (bq Q) (ID 
 l i.1.1 Q ag))))) (yu l Q)) ((ah,ByteArray.mk #[],()),()))
theorem ag9:cM 180 ai3:=fe<| kC λl=>iB λQ h=>by
 refine Wp.dL aa5 xN ⟨[(4,⟨[(8,.int .i64),(3,.str)],[]⟩)],[]⟩ Tryz.f180 (Rp l) ?_;unfold Rp sq l6 dW yu ID bq cG jF ah iA aF aN bC;intro _ _;refine ba.intro (λi=>0<=i.1.1/\i.1.1<=l.length/\fG l ⟨#[]⟩=fG (l.drop i.1.1.toNat) i.1.2.1) (λi=>l.length - i.1.1.toNat) ⟨by simp,by simp,by simp⟩ ?_;rintro ⟨⟨i,last,_⟩,_⟩ ⟨h0,h1,h2⟩;simp only at h0 h1 h2 ⊢;refine aw (λhc=>?_) (λhc=>?_)
 .have hc:i< l.length:=by simpa using hc
  refine ⟨h0,hc,λ_=>?_⟩;rw [eK (e:=dJ) h0 hc] at h2;have bad:vV (aB dJ l i) last=true->Q (.bool false) []:=λhb=>by
   simp only [fG,hb,if_true] at h2;unfold dI at h;rw [h2,gO] at h;exact h
  rw [Hi] at bad;refine aw (λh3=>bad (by unfold Go.Lm.leB;rw [h3];rfl)) (λh3=>aw (λh4=>bad (by rw [h4];simp)) (λh4=>λ_=>aw (λh5=>bad (by rw [show decide (Lib.indexByte (aB dJ l i).1.data.toList 0≥0)=true from h5];simp)) (λh5=>λ_=>aw (λh6=>bad (by rw [h6];simp)) (λh6=>?_))));have hn:vV (aB dJ l i) last=false:=by rw [Hi];unfold Go.Lm.leB;rw [h3,h4,show decide (Lib.indexByte (aB dJ l i).1.data.toList 0≥0)=false from h5,h6];rfl
  simp only [fG,hn,dP,if_false] at h2;exact ⟨by unfold aI;omega,⟨by omega,by omega,h2⟩,by omega⟩
 .have hc:¬i< l.length:=by simpa using hc
  rw [eN hc] at h2;intro _;unfold dI at h;rw [h2] at h;exact h
def cQ:List (Nat×Ty):=(96,dJ)::xN
def aiY:Ct:=cD dJ λl=>c0 λQ=>dI l=true/\∀ z e,ams l z e->Q (.cZ [.c (.d .u8 z),.c (.k (.int .i64 e))]) []
def aa4:=aa5.add ag9
def Ri (l:(List (dJ).den)):dE:=λQ=>l6 l (aN (List.length l)->br ((aF l)==0) (Q rn []) (br (!dI l) (Q rn []) (aN (List.length l)->pB ((ah<=(aF l)/\(aF l)< fa ^ bJ)/\bC<=kh/\(aN (List.length l)->ba (fun 
 i ag=>br (decide (i.1.1< (aF l))) (0<=i.1.1/\i.1.1< (aF l)/\(Ty.ok dJ (dW l i.1.1)->i.2.1.1=ah/\ByteArray.size (dW l i.1.1).1<=255/\List.length i.2.1.2.1<=1000000000/\bu (ByteArray.size (gk (dW l 
 i.1.1).2.1)<=255/\List.length (i.2.1.2.1++ax (sq l i.1.1)::(dW l i.1.1).1.data.toList)<=1000000000/\cG i.1.1 (ag ((i.1.1+1,()),(ah,i.2.1.2.1++ax (sq l i.1.1)::(dW l 
 i.1.1).1.data.toList++ax (ByteArray.size (gk (dW l i.1.1).2.1))::(gk (dW l i.1.1).2.1).data.toList,()),()))))) (F6 i.2.1.1 i.2.1.2.1 Q)) ((ah,()),(ah,[]++aJ bJ (aA (aF l)),()), 
 ()))))))
theorem WH:cM 133 aiY:=fe<| kC λl=>iB λQ h=>by
 refine Wp.lY [some (.sl .u8),none] [] ?_;refine Wp.dL aa4 cQ ⟨[(7,⟨[(20,.int .i64)],[(0,.cells 174 [.int .i64,.own 5 .u8])]⟩)],[]⟩ Tryz.f133 (Ri l) ?_;unfold Ri sq l6 kh bu dW pB F6 rn cG bQ cA bn ah a8 fa cH aF aN bC bJ;obtain ⟨hx,h⟩:=h;obtain ⟨hm,hl⟩:=o7 hx;have hle:=Hu hm;refine λ_ _=>aw (λhc=>?_) (λhc=>?_)
 .have hc:(l.length:Int)=0:=eq_of_beq hc;exact ⟨az _,h [] 1 ⟨.inl ⟨aK (by omega),rfl,rfl⟩⟩⟩
 rw [hx];have gD:l≠ []:=λe=>by subst e;cases hc
 refine aw (λq=>by cases q) (λ_=>λ_=>⟨by trivial,⟨by decide,by decide⟩,⟨by omega,by show _< (256:Int);omega⟩,by decide,λ_=>?_⟩);refine ba.intro (λi=>(0<=i.1.1/\i.1.1<=l.length)/\i.2.1.1=0/\i.2.1.2.1=aJ 1 l.length++gu (pt (l.take i.1.1.toNat))) (λi=>(l.length - i.1.1).toNat) ⟨⟨bp _,by show (0:Int)<=_;omega⟩,rfl,by rw [eE,bm];exact (a7 _).symm⟩ ?_;rintro ⟨⟨j,_⟩,⟨c,x,_⟩,_⟩ ⟨⟨j0,j1⟩,h1,h2⟩;simp only at j0 j1 h1 h2 ⊢;subst h1;have hxl:x.length<=5000:=by
  have a1:=uY (l:=pt (l.take j.toNat)) λt ht=>hle t (by
   have e:pt l=pt (l.take j.toNat)++pt (l.drop j.toNat):=by rw [<-J7,bY]
   rw [e];exact bH _ ht)
  rw [od,aD] at a1;rw [h2,af,aC];omega
 refine aw (λhc=>?_) (λhc=>?_)
 .have hc:j< (l.length:Int):=of_decide_eq_true hc;obtain ⟨m1,m2,m3⟩:=hm _ (rO (e:=dJ) j0 hc);have ht:=ixT (e:=dJ) j0 hc;obtain ⟨y,hy⟩:∃ y,aB dJ l j=y:=⟨_,rfl⟩;rw [hy] at m1 m2 m3 ht ⊢;rw [aeP,tm];have e2:x++ax y.1.size::y.1.data.toList++ax y.2.1.length::y.2.1=aJ 1 l.length++gu (pt (l.take (j+1).toNat)):=by
   rw [ht,J7,uZ,show pt [y]=xaL y++ [] from rfl,a7,Ox,h2];simp only [aH]
  exact ⟨j0,hc,λ_=>⟨by trivial,by omega,by omega,by trivial,by omega,by simp only [af,aq,<-gU];omega,by unfold aI;omega,⟨⟨by omega,by omega⟩,by trivial,e2⟩,by omega⟩⟩
 .have hc:¬j< (l.length:Int):=of_decide_eq_false hc;rw [aV (by omega)] at h2;exact ⟨by trivial,by omega,λ_ _=>⟨az _,h _ _ ⟨.inr ⟨gD,h2,rfl⟩⟩⟩⟩
def aep:Ct:=cP<| cI λr=>cI λm=>cO λH Q=>match H with
 | [.abs A]=>∃ fs R,RB A fs R/\∃ o:Nat,o<=R.length/\r=(dV fs o:Int)/\∃ (ts:List (List UInt8)) (q:List UInt8),R.drop o=gu ts++q/\(∀ t∈ts,t.length<=255)/\m=ts.length/\ts.length<=100/\∀ A',RB A' fs R->Q (.cZ [.c (.d (.sl .u8) ts),.c (.k (.int .i64 0))]) [.abs A']
 | _=>False
def aa3:=aa4.add WH
def KG (r m:Int) (A:Value->Atom):dE:=λQ=>cn r m (ba (λi ag=>br (decide (i.1.2.2.1< m)) (∃ fs R,RB i.2.1 fs R/\∃ o,o<=List.length R/\i.1.2.1=(↑(dV fs o):Int)/\(ah<=a8/\a8<=(10000000:Int))/\∀ (A':Value->Atom) (z:List 
 UInt8) (nx e:Int),RB A' fs R->pn fs R o bJ z nx e->db z (cn nx e (br (e !=0) (Q (.cZ [.c (.k cA),.c (.k (aE e))]) [HO.abs A']) (ah<=ah/\ah< (aF z)/\(kV z (∃ fs R,RB A' fs R/\∃ o,o<= 
 List.length R/\nx=(↑(dV fs o):Int)/\(ah<=(fO z)/\(fO z)<=(10000000:Int))/\∀ (A':Value->Atom) (z_1:List UInt8) (nx e:Int),RB A' fs R->pn fs R o (aA (fO z)) z_1 nx e->db z_1 (cn nx e (br 
 (e !=0) (Q (.cZ [.c (.k cA),.c (.k (aE e))]) [HO.abs A']) ((List.length i.1.1+List.length [z_1])*24<=cC/\List.length i.1.1+List.length [z_1]<=9223372036854775807/\cG i.1.2.2.1 (ag ((i.1.1++ [z_1],nx,i.1.2.2.1+1, 
 ()),A',()))))))))))) (Q (SV.cZ [S1.c (.o 1),.c (.k bn)]) [HO.abs i.2.1,.sl 35 bD i.1.1])) (([],r,ah,()),A,()))
theorem acf:cM 197 aep:=fe<| rK<| nK λr=>nK λm=>rM λH Q h=>by
 split at h;rotate_left;cases h;rename_i A;refine Wp.lY [some (.sl (.sl .u8)),none] [1] ?_;refine Wp.dL aa3 cQ ⟨[(4,⟨[(8,.own 35 (.sl .u8)),(1,.int .i64),(15,.int .i64)],[(0,.abs)]⟩)],[]⟩ Tryz.f197 (KG r m A) ?_;unfold KG kV db cn cG cC cA bn fO aE ah a8 aF aN bJ bD;obtain ⟨fs,R,hR,o,ho,rfl,ts,q,hd,hle,rfl,hl,h⟩:=h;have Oq:∀ j:Nat,R.drop (o+(gu (ts.take j)).length)=gu (ts.drop j)++q:=λj=>by
  rw [<-iC,hd]
  conv=>lhs;rw [<-bY j ts,uZ,aH]
  rw [bY];exact fB
 refine λ_ _=>ba.intro (λi=>∃ j,j<=ts.length/\i.1.1=ts.take j/\i.1.2.1=(dV fs (o+(gu (ts.take j)).length):Nat)/\i.1.2.2.1=(j:Int)/\RB i.2.1 fs R) (λi=>ts.length - i.1.1.length) ⟨0,cr _,rfl,rfl,rfl,hR⟩ ?_;rintro ⟨⟨x,r',k,_⟩,A',_⟩ ⟨j,hj,h1,h2,h3,hR⟩;simp only at hj h1 h2 h3 hR ⊢;subst h1 h2 h3;have Oo:(ts.take j).length=j:=by rw [aD];omega
 refine aw (λhc=>?_) (λhc=>?_)
 .have hc:(j:Int)< ts.length:=of_decide_eq_true hc;have Na:j< ts.length:=by omega
  have hp:=Oq j;obtain ⟨p,AA⟩:∃ p,o+(gu (ts.take j)).length=p:=⟨_,rfl⟩;obtain ⟨t,hte⟩:∃ t,ts[j]=t:=⟨_,rfl⟩;have htl:=hle t (by rw [<-hte];exact df Na);have ht:ts.take j++ [t]=ts.take (j+1):=by rw [bZ Na,hte]
  have anu:(gu (ts.take (j+1))).length=(gu (ts.take j)).length+1+t.length:=by
   rw [<-ht,uZ,af];show _+(wq t++ []).length=_;rw [a7];unfold wq;rw [aq];omega
  rw [bO Na,hte,zG,AA] at hp;rw [AA];unfold wq at hp;simp only [eB,aH] at hp;have DU:=congrArg List.length hp;rw [aW,aq,af] at DU;have hp1:R.drop (p+1)=t++(gu (ts.drop (j+1))++q):=by
   rw [<-iC,hp];rfl
  refine ⟨fs,R,hR,p,by omega,rfl,⟨by decide,by decide⟩,λA' z nx e hR hz _ _ _=>?_⟩;obtain ⟨rfl,rfl,rfl⟩:=hz.ok (by omega);rw [hp];refine aw (λq=>by cases q) (λ_=>⟨by decide,by show (0:Int)< 1;decide,λ_=>?_⟩);show ∃ fs R,_;have hu:(aB .u8 (List.take 1 (ax t.length::(t++(gu (ts.drop (j+1))++q)))) 0).toNat=t.length:=XI htl;rw [hu];refine ⟨fs,R,hR,p+1,by omega,rfl,⟨by omega,by omega⟩,λA' z nx e hR hz _ _ _=>?_⟩;rw [bm] at hz;obtain ⟨rfl,rfl,rfl⟩:=hz.ok (by omega);rw [hp1,List.take_left,Oo,ht];exact aw (λq=>by cases q) (λ_=>⟨by simp only [ay];omega,by simp only [ay];omega,by unfold aI;omega,⟨j+1,Na,rfl,by rw [anu,show o+((gu (ts.take j)).length+1+t.length)=p+1+t.length by omega],by omega,hR⟩,by rw [aD];omega⟩)
 .have hc:¬(j:Int)< ts.length:=of_decide_eq_false hc;rw [aV (by omega)];exact ⟨by show 1<=2;decide,h A' hR⟩
end Go.Proofs

