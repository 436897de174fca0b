/- Texts of mine, laid together: LmKA LmSaid LmKB LmVa LmK3 LmVb LmVc LmVd LmVe LmEqS LmEqB LmVf LmVg LmVh. -/
import Derived.WalkKit
import Derived.WalkSpells
import Derived.WalkLawsBesides
import Derived.Deep.Quiet
import Derived.Deep.MidRow
import Derived.KernelRfl
import Derived.ProofKit
import Derived.OpenShut
import Derived.ShutString
import Derived.ChangeOld
import Derived.Deep.Slices
import Derived.Deep.Fields
import Derived.ChangeSame
import Derived.Laws.RangeAny
import Derived.Lib.OthersKept
import Derived.Maps.Own
import Derived.Maps.OwnSet
import Derived.Maps.Range
import Derived.Maps.RangeWalk
import Derived.Laws.OwnMore
import Derived.Laws.MakeOwn
import Derived.Laws.CopyRow
import Derived.Laws.BytesArg
import Derived.Laws.IdiomStrings
import Derived.Lib.ConvBytes
import Derived.WideKeyArr
import Derived.WideKeyMaps
import Derived.ChangeKeysEq
import Derived.Laws.StructEq
import Derived.Laws.Cover3
import Derived.Laws.Pointers
import Derived.Laws.Small
set_option linter.unusedVariables false
open Array renaming getElem?_eq_some_iff → aQ, getD_eq_getD_getElem? → cj, getElem?_eq_getElem → cL, length_toList → dw, getElem?_toList → eS, getElem?_eq_none → iy, getElem?_modify → jb, getElem?_setIfInBounds_ne → kx
open Bool renaming and_eq_true → ao, not_eq_true' → bG, false_eq_true → dP, false_and → gO, or_eq_true → iD, eq_iff_iff → iE, true_and → pr
open Int renaming toNat_natCast → bm, le_refl → bp, natCast_nonneg → jD
open Go.IntKind renaming signed → eI, bits → ij, max → ku
open List renaming length_append → af, getElem?_eq_getElem → ak, length_cons → aq, replicate → au, getElem?_eq_some_iff → av, length_take → aD, mem_cons_of_mem → aG, append_assoc → aH, eq_nil_of_length_eq_zero → aK, length_nil → aL, mem_map → aM, getD_eq_getElem?_getD → aP, getElem?_append_left → aU, take_of_length_le → aV, length_drop → aW, mem_cons → aX, mem_append → aY, getElem?_append_right → aZ, all_eq_true → bo, flatten_cons → bF, length_map → bL, range → bP, take_append_drop → bY, map_cons → cg, getElem?_map → cz, getElem?_eq_none → dy, mem_iff_getElem → dH, getElem?_take → dO, nodup_cons → eD, map_append → eR, flatten_append → eT, mem_of_getElem? → fc, take_length → ff, mem_filter → fQ, take_take → fR, length_set → gJ, pairwise_map → iZ, find?_eq_none → jC, flatMap_cons → kq, filter_eq_self → kr, filter_cons → lW, mem_of_find?_eq_some → pI, drop_take → pJ
open Nat renaming eq_of_beq_eq_true → ai, le_refl → az, zero_add → cd, le_of_ble_eq_true → cK, add_mul → fj, blt → gx, mul_le_mul_right → hZ, add_zero → j4, lt_trichotomy → ko
open Option renaming map_some → lu, bind_some → o6
open Option.some renaming inj → aj, injEq → km
open UInt8 renaming ofNat → ax
noncomputable section
namespace Go.Lm
open Go Go.RowKit

abbrev AL:=List (Nat×Value)
theorem ix {a b:Nat} (h:¬a=b):Nat.beq a b=false:=by
 cases hb:Nat.beq a b with
 | false=>rfl
 | true=>exact absurd (ai hb) h
def Su (o:Oper):Bool:=match o.op with| .select .. =>false| _=>true
def Ho (P:Program) (f:FuncId) (args:Array Value) (w:World) (R:Value->World->Prop):Prop:=Calls P f args w λe w'=>∃ v,e= .returned v/\R v w'
section
variable {P:Program} {ops:Array Oper} {rest:List Oper} {o:Oper} {n:Nat} {s:AL} {Q:Exit->Act->World->Prop} {w:World}

end
end Go.Lm
namespace Go.Lm
open Go Go.RowKit

def Le (w w':World):Prop:=Below w.heap.size w w'
theorem Le.refl (w:World):Le w w:=Below.refl _ _
theorem Le.trans {a b c:World} (h:Le a b) (k:Le b c):Le a c:=Below.trans h (Below.mono k h.size)
theorem Le.drew (w:World):Le w w.drew:=(Below.refl _ _).drew
theorem Le.jG {w w':World} (h:Le w w') {k:Nat} {x:Obj} (hx:w.heap[k]?=some x):w'.heap[k]?=some x:=by
 rw [h.block k (aQ.1 hx).1];exact hx
def reach (ops:Array Oper):Nat->Nat->Nat->Bool
 | 0,_,_=>false
 | f+1,j,i=>match ops[j]? with
  | none=>false
  | some o=>o.after.any λe=>Region.binds .any e&& (Nat.beq e.on i|| reach ops f e.on i)
def Ju (ops:Array Oper):Bool:=(bP ops.size).all λi=>match ops[i]? with
 | none=>true
 | some o=>(o.after.all λe=> !Region.binds .any e|| gx e.on i)&& Su o
def Qg (ops:Array Oper) (n:Nat):Bool:=(bP ops.size).all λi=>match (ops[i]?).bind (·.dst) with
 | none=>true
 | some d=>gx d n&& (bP i).all λj=>match (ops[j]?).bind (·.dst) with
  | none=>true
  | some d'=> !Nat.beq d' d
section
variable {P:Program}
theorem filter_lt {p q:Nat->Bool}:∀ (l:List Nat),(∀ x∈l,q x=true->p x=true)->∀ i∈l,p i=true->q i=false->(l.filter q).length< (l.filter p).length
 | [],_,i,hi,_,_=>by cases hi
 | x::l,h,i,hi,hp,hq=>by
  have hle:(l.filter q).length<=(l.filter p).length:=by
   have this:∀ y∈l,q y=true->p y=true:=λy hy=>h y (aG x hy);clear h hi
   induction l with
   | nil=>simp
   | cons y l ih=>
    have h1:=this y (by simp);have h2:=ih (λz hz=>this z (aG y hz));simp only [lW];by_cases hy:q y=true;simp [hy,h1 hy];exact h2
    .by_cases CW:p y=true
     .simp [hy,CW];omega
     .simp [hy,CW];exact h2
  rcases aX.1 hi with rfl| pH;simp [hp,hq];omega
  .have ih:=filter_lt l (λy hy=>h y (aG x hy)) i pH hp hq;simp only [lW];by_cases hx:q x=true
   .simp [hx,h x (by simp) hx];exact ih
   .by_cases Gx:p x=true
    .simp [hx,Gx];omega
    .simp [hx,Gx];exact ih
theorem qz {ops:Array Oper} {listed:Array Bool} (hc:∀ (j:Nat) (o:Oper),ops[j]?=some o->listed.getD j false=true->∀ e∈o.after,Region.binds .any e=true->listed.getD e.on false=true):
  ∀ f j i,reach ops f j i=true->listed.getD j false=true->listed.getD i false=true
 | 0,_,_,h,_=>by simp [reach] at h
 | f+1,j,i,h,hj=>by
  unfold reach at h;cases ho:ops[j]? with
  | none=>simp [ho] at h
  | some o=>
   simp only [ho] at h;obtain ⟨k,hk,hb⟩:=Array.any_eq_true.1 h;simp only [ao,iD] at hb;have hl:=hc j o ho hj _ (Array.getElem_mem hk) hb.1;rcases hb.2 with he| he;rw [<-ai he];exact hl;exact qz hc f _ _ he hl
theorem tL (m j:Nat):(Array.replicate m false).getD j false=false:=by
 by_cases h:j< m;simp [cj,h];simp [cj,h]
end
end Go.Lm
namespace Go.Lm
open Go Go.RowKit

def Hq (w:World) (b:Nat) (cs:Array Value) (t:TypeId):Prop:=w.heap[b]?=some (.cells cs t (0,0))
abbrev ptr (b o:Nat):Value:=.pointer (some ⟨b,o,none⟩)
structure xF (w:World) (b:Nat) (o:Obj) (w':World):Prop where
 eq:w'=w.alloc o
 at_:b=w.heap.size
structure Wr (w:World) (b:Nat) (cs:Array Value) (w':World):Prop where
 eq:w'=w.setRow b cs
 lt:b< w.heap.size
theorem xF.mk' (w:World) (o:Obj):xF w w.heap.size o (w.alloc o):=⟨rfl,rfl⟩
theorem xF.le {w w':World} {b:Nat} {o:Obj} (h:xF w b o w'):Le w w':=by
 rw [h.eq];exact (Below.refl _ _).alloc (az _) o
theorem xF.here {w w':World} {b:Nat} {o:Obj} (h:xF w b o w'):w'.heap[b]?=some o:=by
 rw [h.eq,h.at_];exact heap_alloc_new w o
theorem xF.jG {w w':World} {b k:Nat} {o x:Obj} (h:xF w b o w') (hx:w.heap[k]?=some x):w'.heap[k]?=some x:=h.le.jG hx
theorem xF.below {w w' a:World} {b B:Nat} {o:Obj} (h:xF w b o w') (hb:Below B a w) (hB:B<=b):Below B a w':=by
 rw [h.eq];exact hb.alloc (by rw [<-h.at_];exact hB) o
theorem UK (w:World) (b k:Nat) (cs:Array Value) (h:k≠b):(w.setRow b cs).heap[k]?=w.heap[k]?:=by
 simp only [World.setRow,jb];rw [if_neg (Ne.symm h)]
theorem Wr.below {w w' a:World} {b B:Nat} {cs:Array Value} (h:Wr w b cs w') (hb:Below B a w) (hB:B<=b):Below B a w':=by
 rw [h.eq];exact hb.trans ⟨rfl,rfl,rfl,by rw [setRow_size];exact az _,λk hk=>UK w b k cs (by omega)⟩
theorem Le.below {a w w':World} {B:Nat} (h:Le w w') (hb:Below B a w) (hB:B<=w.heap.size):Below B a w':=hb.trans (h.mono hB)
theorem Hq.lt {w:World} {b:Nat} {cs:Array Value} {t:TypeId} (h:Hq w b cs t):b< w.heap.size:=(aQ.1 h).1
theorem Hq.cell {w:World} {b:Nat} {cs:Array Value} {t:TypeId} (h:Hq w b cs t) (i:Nat):w.cell? ⟨b,i,none⟩=cs[i]?:=by unfold Hq at h;simp [World.cell?,h]
section
variable {P:Program} {w:World} {ρ:Operand->Value} {o:Oper}

theorem HT {b off:Nat} {cs:Array Value} {t t':TypeId} {d:TypeDesc} {v:Value} (hb:Hq w b cs t') (hu:P.underlying t=some d) (hd:d.isRow=false) (hv:cs[off]?=some v):
  (Instr.loadAt t (ptr b off)).run P w= .ok v w:=by
 have Jp:(isAgg t).run P w= .ok false w:=by
  unfold isAgg;rw [Sem.run_bind,run_underlying hu w];cases d<;>simp_all
 have hc:=hb.cell off;rw [hv] at hc;simp [Instr.loadAt,Instr.sureAddr,loadVar,Jp,run_load,hc]
theorem wA {b off:Nat} {cs:Array Value} {t t':TypeId} {d:TypeDesc} {vs:List Value} (hb:Hq w b cs t') (hu:P.underlying t=some d) (hd:d.isRow=true)
  (hi:(P.info? t).map (·.size)=some vs.length) (hv:(cs.toList.drop off).take vs.length=vs):(Instr.loadAt t (ptr b off)).run P w= .ok (.agg vs.toArray) w:=by
 refine run_loadAt_mid w b off t vs d (λj v hj=>?_) hu hd hi;rw [hb.cell,<-eS];have Oo:j< vs.length:=(av.1 hj).1;rw [<-hv,dO,if_pos Oo,List.getElem?_drop] at hj;exact hj
theorem kA {b off:Nat} {cs:Array Value} {t t':TypeId} {v:Value} (hb:Hq w b cs t') (hi:(P.info? t).map (·.size)=some v.cells.size) (h1:v.cells.toList.all (·.oneCell')=true)
  (hl:off+v.cells.size<=cs.size):
  (Instr.storeAt t (ptr b off) v).run P w= .ok () (w.setRow b (cs.toList.take off++v.cells.toList++cs.toList.drop (off+v.cells.size)).toArray):=by
 cases hq:P.info? t with
 | none=>simp [hq] at hi
 | some i=>
  have hs:i.size=v.cells.size:=by simpa [hq] using hi
  have rR:=run_storeCells_at P b off t' v.cells.toList 0 cs w hb (by simpa using hl) (λx hx=>bo.1 h1 x hx);simp only [j4,dw] at rR;simp [Instr.storeAt,Instr.sureAddr,storeVar,sizeOf,typeInfo,hq,hs,rR]
theorem afW {t:TypeId} {x:Operand} {v:Value} (ho:o.op= .box t x) (hx:ρ x=v):(execOp ρ o).run P w= .ok (.value (ptr w.heap.size 0)) (w.alloc (.cells v.cells t)):=by
 simp [execOp,ho,hx,Instr.box,newVar,newRow,go_sem]
theorem TU {t:TypeId} {i:TypeInfo} {z:Value} (ho:o.op= .alloc t) (hi:P.info? t=some i) (hz:i.zero=some z):(execOp ρ o).run P w= .ok (.value (ptr w.heap.size 0)) (w.alloc (.cells z.cells t)):=by
 simp [execOp,ho,Instr.alloc,zeroValue,typeInfo,hi,hz,newVar,newRow,go_sem]
end

section
variable {P:Program} {ops:Array Oper} {rest:List Oper} {o:Oper} {n:Nat} {s:AL} {Q:Exit->Act->World->Prop} {w:World}

end

theorem Le.QB {w w' a:World} (h:Le w w') (hb:Below a.heap.size a w):Below a.heap.size a w':=h.below hb hb.size
theorem ad7 {P:Program} {w:World} {d:Nat} {xs ys:Array Value} {f:Field} {fs:List Field} {k:IntKind} {m n:Int} {b:Bool} (hn:(f.name != "_")=true) (hu:P.underlying f.type=some (.int k)) (hi:((P.info? f.type).map (·.size))=some 1)
  (hx:xs[f.offset]?=some (.int k m)) (hy:ys[f.offset]?=some (.int k n)) (hr:(Op.eqFields (d+1) xs ys fs).run P w= .ok b w):(Op.eqFields (d+1) xs ys (f::fs)).run P w= .ok ((m==n)&& b) w:=by
 have hpx:(part f.type xs f.offset).run P w= .ok (.int k m) w:=by
  cases hq:P.info? f.type with
  | none=>simp [hq] at hi
  | some i=>simp [part,isAgg,run_underlying hu,go_sem,hx]
 have Zb:(part f.type ys f.offset).run P w= .ok (.int k n) w:=by
  cases hq:P.info? f.type with
  | none=>simp [hq] at hi
  | some i=>simp [part,isAgg,run_underlying hu,go_sem,hy]
 have gD:f.name≠ "_" :=by simpa using hn
 simp only [Op.eqFields,if_pos gD,Sem.run_bind,hpx,Zb,Result.andThen_ok,run_equalIn_int w d f.type k k m n hu];cases hb:m==n;simp [go_sem];simp [hr]
theorem ad6 {P:Program} {w:World} {d:Nat} {xs ys:Array Value}:(Op.eqFields d xs ys []).run P w= .ok true w:=by simp [Op.eqFields]
end Go.Lm
namespace Go.Lm
open Go Go.RowKit Go.WideShapes Go.ChangeShapes

end Go.Lm
namespace Go.Lm
open Go Go.RowKit Go.ChangeShapes Go.WideShapes

def bA (w w':World):Prop:=∀ (a:Addr) (v:Value),w.cell? a=some v->w'.cell? a=some v
theorem bA.refl (w:World):bA w w:=λ_ _ h=>h
theorem bA.trans {a b c:World} (h:bA a b) (k:bA b c):bA a c:=λx v hx=>k x v (h x v hx)
theorem Le.afi {w w':World} (h:Le w w'):bA w w':=λa v hc=>by rw [Below.cell h (World.block_lt_of_cell? w a hc)];exact hc
structure rj (g w:World):Prop where
 size:g.heap.size<=w.heap.size
 mono:bA g w
theorem rj.refl (w:World):rj w w:=⟨az _,bA.refl w⟩
theorem rj.le {g w w':World} (h:rj g w) (hl:Le w w'):rj g w':=⟨Nat.le_trans h.size hl.size,h.mono.trans hl.afi⟩
def tA (g:World) (b:Nat):Prop:=∀ (a:Addr),a.block=b->g.cell? a=none
theorem xF.akY {g w w':World} {b:Nat} {o:Obj} (h:xF w b o w') (hs:rj g w):tA g b:=λa ha=>by
 cases hc:g.cell? a with
 | none=>rfl
 | some v=>
  have:=World.block_lt_of_cell? g a hc;have h1:=hs.size;rw [ha,h.at_] at this;omega
def oM (g w w':World):World:= {w' with heap:=Array.ofFn (n:=w'.heap.size) λk=>if k.val< w.heap.size then (g.heap[k.val]?).getD (.map #[] 0) else w'.heap[k.val]}
theorem ub {g w w':World} (_hs:rj g w) (hl:w.heap.size<=w'.heap.size) (a:Addr) (ha:a.block< w.heap.size):(oM g w w').cell? a=g.cell? a:=by
 unfold World.cell? oM;have eJ:a.block< w'.heap.size:=by omega
 simp only [Array.getElem?_ofFn,eJ,dif_pos,ha,if_true];cases hg:g.heap[a.block]? with
 | none=>simp
 | some o=>simp
theorem GG {g w w':World} (a:Addr) (ha:w.heap.size<=a.block):(oM g w w').cell? a=w'.cell? a:=by
 unfold World.cell? oM;by_cases eJ:a.block< w'.heap.size
 .simp only [Array.getElem?_ofFn,eJ,dif_pos];rw [if_neg (by omega)];simp [eJ]
 .simp [eJ]
theorem P6 (g w w':World):(oM g w w').heap.size=w'.heap.size:=by simp [oM]
theorem P7 {g w w':World} (hs:rj g w) (hl:Le w w'):rj (oM g w w') w':=by
 refine ⟨by rw [P6];exact az _,λa v hv=>?_⟩;by_cases ha:a.block< w.heap.size
 .rw [ub hs hl.size a ha] at hv;exact hl.afi a v (hs.mono a v hv)
 .rw [GG a (by omega)] at hv;exact hv
theorem C4 {g w w':World} (hs:rj g w) (hl:Le w w'):bA g (oM g w w'):=λa v hv=>by
 have ha:a.block< w.heap.size:=Nat.lt_of_lt_of_le (World.block_lt_of_cell? g a hv) hs.size;rw [ub hs hl.size a ha];exact hv
theorem Nc {g w w':World} {b:Nat} (hs:rj g w) (hl:Le w w') (hb:b< w.heap.size) (hn:tA g b):tA (oM g w w') b:=λa ha=>by
 rw [ub hs hl.size a (by omega)];exact hn a ha
def Agr (g₀ w₀ g:World):Prop:=∀ (a:Addr),a.block< w₀.heap.size->g.cell? a=g₀.cell? a
theorem Agr.refl (g w:World):Agr g w g:=λ_ _=>rfl
theorem Agr.oM {g₀ w₀ g w w':World} (h:Agr g₀ w₀ g) (hs:rj g w) (hl:Le w w') (h0:w₀.heap.size<=w.heap.size):Agr g₀ w₀ (oM g w w'):=λa ha=>by
 rw [ub hs hl.size a (by omega)];exact h a ha
class aO (α:Type) where
 size:Nat
 agg:Bool
 rel:World->List Value->α->Prop
 mono:∀ {w w':World} {cs:List Value} {x:α},bA w w'->rel w cs x->rel w' cs x
 len:∀ {w:World} {cs:List Value} {x:α},rel w cs x->cs.length=size
def Is {α:Type} [aO α] (w:World) (v:Value) (x:α):Prop:=
 if (aO.agg α) then ∃ cs,v= .agg cs/\aO.rel w cs.toList x else aO.rel w [v] x
theorem Is.mono {α:Type} [aO α] {w w':World} {v:Value} {x:α} (hl:bA w w') (h:Is w v x):Is w' v x:=by
 unfold Is at*;split at h
 .rename_i ha;rw [if_pos ha];obtain ⟨cs,hv,hr⟩:=h;exact ⟨cs,hv,aO.mono hl hr⟩
 .rename_i ha;rw [if_neg ha];exact aO.mono hl h
instance:aO Int where
 size:=1
 agg:=false
 rel _ cs n:=cs= [.int .i64 n]/\(Lit.int .i64 n).wf=true
 mono _ h:=h
 len h:=by rw [h.1];rfl
instance:aO Bool where
 size:=1
 agg:=false
 rel _ cs b:=cs= [.bool b]
 mono _ h:=h
 len h:=by rw [h];rfl
instance:aO UInt8 where
 size:=1
 agg:=false
 rel _ cs b:=cs= [.int .u8 b.toNat]
 mono _ h:=h
 len h:=by rw [h];rfl
instance:aO ByteArray where
 size:=1
 agg:=false
 rel _ cs s:=cs= [.string s]/\s.size<=maxLen
 mono _ h:=h
 len h:=by rw [h.1];rfl
def amt {α:Type} [aO α] (w:World) (v:Value) (xs:List α):Prop:=
 (v= .slice none 0 0/\xs= [])\/
 ∃ (a:Addr) (cap:Nat),v= .slice (some a) xs.length cap/\xs.length<=cap/\cap<=maxLen/\
  ∀ (i:Nat) (x:α),xs[i]?=some x->∃ cs:List Value,(∀ (j:Nat) (c:Value),cs[j]?=some c->w.cell? (a.add (i*aO.size α+j))=some c)/\aO.rel w cs x
instance {α:Type} [aO α]:aO (List α) where
 size:=1
 agg:=false
 rel w cs xs:=∃ v,cs= [v]/\amt w v xs
 mono:=by
  rintro w w' cs x hl ⟨v,rfl,h⟩;refine ⟨v,rfl,?_⟩;rcases h with h| ⟨a,cap,hv,h1,h2,h3⟩;exact .inl h
  .refine .inr ⟨a,cap,hv,h1,h2,λi x hx=>?_⟩;obtain ⟨cs,hc,hr⟩:=h3 i x hx;exact ⟨cs,λj c hj=>hl _ c (hc j c hj),aO.mono hl hr⟩
 len:=by rintro w cs x ⟨v,rfl,_⟩;rfl
theorem dx {α:Type} [aO α] {w:World} {v:Value} {xs:List α}:Is w v xs↔amt w v xs:=by
 simp [Is,aO.agg,aO.rel]
def DJ (P:Program) (t:TypeId) (α:Type) [aO α]:Prop:=
 ∀ {H:Type} (enc:TypeId×Value->H) (w:World) (base:Nat) (spare:Nat->Bool) (held:Bool) (fuel:Nat) (cs:List Value) (y:DataW H×List MemPlace),DataW.trod enc P w base spare held fuel t cs=some y->∃ x:α,aO.rel w cs x
section
variable {P:Program}
theorem Pu {t:TypeId} (ht:P.underlying t=some .bool):DJ P t Bool:=λ_ _ _ _ _ _ _ _ h=>by
 obtain ⟨b,hc,_⟩:=DataW.trod_bool ht h;exact ⟨b,hc⟩
theorem Pt {t:TypeId} (ht:P.underlying t=some (.int .u8)):DJ P t UInt8:=λ_ _ _ _ _ _ cs _ h=>by
 obtain ⟨n,hc,_,hw⟩:=DataW.trod_int ht h;have hb:0<=n/\n<=255:=by
  simp [Lit.wf,IntKind.min,ku,eI,ij] at hw;omega
 refine ⟨ax n.toNat,?_⟩;have:((ax n.toNat).toNat:Int)=n:=by
  simp [UInt8.toNat_ofNat'];omega
 show cs= [.int .u8 _];rw [this];exact hc
theorem U9 {t:TypeId} (ht:P.underlying t=some .string):DJ P t ByteArray:=λ_ _ _ _ _ _ _ _ h=>by
 obtain ⟨s,hc,_,hs⟩:=DataW.trod_string ht h;exact ⟨s,hc,hs⟩
theorem zV {α:Type} {p:Nat->α->Prop}:∀ n:Nat,(∀ i,i< n->∃ x,p i x)->∃ l:List α,l.length=n/\∀ i x,l[i]?=some x->p i x
 | 0,_=>⟨[],rfl,λi x h=>by simp at h⟩
 | n+1,h=>by
  obtain ⟨l,hl,hp⟩:=zV n λi hi=>h i (by omega);obtain ⟨x,hx⟩:=h n (by omega);refine ⟨l++ [x],by simp [hl],λi y hy=>?_⟩;by_cases hi:i< n;rw [aU (by omega)] at hy;exact hp i y hy
  .have:i=n:=by
    have:=(av.1 hy).1;simp [hl] at this;omega
   subst this;rw [aZ (by omega)] at hy;simp [hl] at hy;subst hy;exact hx
theorem Ps {t e:TypeId} {α:Type} [aO α] (ht:P.underlying t=some (.slice e)) (hs:P.cellsOf e=aO.size α) (he:DJ P e α):DJ P t (List α):=λenc w base spare held fuel cs y h=>by
 rcases Go.Deep.open_slice ht h with ⟨hc,_⟩| ⟨a,len,cap,m,n,D,Pl,hc,hb,hl,hm,hmm,_,hi⟩;exact ⟨[],_,hc,.inl ⟨rfl,rfl⟩⟩
 .have hlm:len<=m:=by rw [hmm];split<;>omega
  obtain ⟨l,On,hp⟩:=zV (α:=α) (p:=λi x=>∃ cs:List Value,(∀ (j:Nat) (c:Value),cs[j]?=some c->w.cell? (a.add (i*aO.size α+j))=some c)/\aO.rel w cs x) len λi pH=>by
   obtain ⟨xK,h1,h2⟩:=hi i (by omega);obtain ⟨x,hx⟩:=he enc w base spare held n xK _ h2;refine ⟨x,xK,λj c hj=>?_,hx⟩;obtain ⟨_,M9,uA⟩:=World.cells?_some h1;have Oo:j< P.cellsOf e:=by rw [<-M9];exact (av.1 hj).1
   have:=uA j Oo;rw [Go.Deep.add_add,hs] at this;rw [this,hj]
  subst On;exact ⟨l,_,hc,.inr ⟨a,cap,rfl,hl,hm,hp⟩⟩
theorem Yv {t:TypeId} {α:Type} [aO α] (ho:DJ P t α) (ha:aO.agg α=false) {H:Type} {enc:TypeId×Value->H} {w:World} {base:Nat} {spare:Nat->Bool} {held:Bool} {v:Value} {d:DataW H} {ps:List MemPlace}
  (hv:v.cells= #[v]) (h:DataW.Trod enc P w base spare held t v d ps):∃ x:α,Is w v x:=by
 obtain ⟨fuel,hf⟩:=h;obtain ⟨x,hx⟩:=ho enc w base spare held fuel _ _ hf;refine ⟨x,?_⟩;unfold Is;rw [if_neg (by rw [ha];simp)];rw [hv] at hx;exact hx
def jU (k:Nat):Value->Int->Value
 | .slice (some a) _ _,i=>.pointer (some (a.add (i.toNat*k)))
 | _,_=>undef
theorem Wb {w:World} {ρ:Operand->Value} {o:Oper} {x:Operand} {t:TypeId} {s:ByteArray} (ho:o.op= .call {callee:=.builtin .len,args:= #[x],argTypes:= #[t]}) (ht:P.underlying t=some .string) (hx:ρ x= .string s):
  (execOp ρ o).run P w= .ok (.value (.int .i64 s.size)) w:=by
 simp [execOp,ho,resolve,invoke,builtin,hx,Builtin.len_,run_underlying ht,goInt]
theorem aml {α:Type} [aO α] {w:World} {ρ:Operand->Value} {o:Oper} {x:Operand} {t e:TypeId} {v:Value} {xs:List α} (h:Is w v xs) (ho:o.op= .call {callee:=.builtin .len,args:= #[x],argTypes:= #[t]}) (ht:P.underlying t=some (.slice e)) (hx:ρ x=v):
  (execOp ρ o).run P w= .ok (.value (.int .i64 xs.length)) w:=by
 rcases dx.1 h with ⟨rfl,rfl⟩| ⟨a,cap,rfl,_⟩<;>simp [execOp,ho,resolve,invoke,builtin,hx,Builtin.len_,run_underlying ht,goInt]
theorem N9 {α:Type} [aO α] {w:World} {ρ:Operand->Value} {o:Oper} {x y:Operand} {t e:TypeId} {v:Value} {xs:List α} {i:Int} {ki:IntKind} (h:Is w v xs) (h0:0<=i) (h1:i< xs.length) (ho:o.op= .indexAddr t x y) (ht:P.underlying t=some (.slice e))
  (hs:(P.info? e).map (·.size)=some (aO.size α)) (hx:ρ x=v) (hy:ρ y= .int ki i):(execOp ρ o).run P w= .ok (.value (jU (aO.size α) v i)) w:=by
 rcases dx.1 h with ⟨rfl,rfl⟩| ⟨a,cap,rfl,_⟩;simp at h1;omega
 .cases hq:P.info? e with
  | none=>simp [hq] at hs
  | some ie=>
   have kE:ie.size=aO.size α:=by simpa [hq] using hs
   simp [execOp,ho,Instr.indexAt,hx,hy,asIntOf,run_underlying ht,h0,h1,sizeOf,typeInfo,hq,kE,jU]
end

section
variable {P:Program}
theorem Is.YS {α:Type} [aO α] {w:World} {v:Value} {xs:List α} (h:Is w v xs):xs.length<=9223372036854775807:=by
 rcases dx.1 h with ⟨_,rfl⟩| ⟨_,cap,_,h1,h2,_⟩;simp
 .unfold maxLen at h2;omega
def iV (s:ByteArray) (i:Int):UInt8:=(s[i.toNat]?).getD 0
theorem N6 {w:World} {ρ:Operand->Value} {o:Oper} {x:Operand} {lo hi:Option Operand} {t:TypeId} {s:ByteArray} {l h:Int} (hl:0<=l) (GA:l<=h) (hh:h<=s.size) (ho:o.op= .slice t x lo hi none) (ht:P.underlying t=some .string) (hx:ρ x= .string s)
  (h1:(lo=none/\l=0)\/∃ y,lo=some y/\ρ y= .int .i64 l) (h2:(hi=none/\h=s.size)\/∃ y,hi=some y/\ρ y= .int .i64 h):
  (execOp ρ o).run P w= .ok (.value (.string (s.extract l.toNat h.toNat))) w:=by
 have e0:0<=h:=by omega
 have hb:(Instr.sliceBounds false s.size s.size (lo.map ρ) (hi.map ρ) none).run P w= .ok (l.toNat,h.toNat,s.size) w:=by
  rcases h1 with ⟨rfl,rfl⟩| ⟨y,rfl,hy⟩<;>rcases h2 with ⟨rfl,rfl⟩| ⟨z,rfl,hz⟩<;>
   simp_all [Instr.sliceBounds,Instr.sliceBound,asIntOf]<;>omega
 simp [execOp,ho,Instr.sliceAt,hx,run_underlying ht,Instr.slice,hb]
end

def jx (k:Nat):Value->Int->Int->Value
 | .slice a _ cap,l,h=>.slice (if cap=l.toNat then a else a.map (·.add (l.toNat*k))) (h.toNat - l.toNat) (cap - l.toNat)
 | v,_,_=>v
section
variable {P:Program}
theorem aeT {α:Type} [aO α] {w:World} {ρ:Operand->Value} {o:Oper} {x:Operand} {lo hi:Option Operand} {t e:TypeId} {v:Value} {xs:List α} {l h:Int} (Gx:Is w v xs) (hl:0<=l) (GA:l<=h) (hh:h<=xs.length) (ho:o.op= .slice t x lo hi none)
  (ht:P.underlying t=some (.slice e)) (hs:(P.info? e).map (·.size)=some (aO.size α)) (hx:ρ x=v)
  (h1:(lo=none/\l=0)\/∃ y,lo=some y/\ρ y= .int .i64 l) (h2:(hi=none/\h=xs.length)\/∃ y,hi=some y/\ρ y= .int .i64 h):
  (execOp ρ o).run P w= .ok (.value (jx (aO.size α) v l h)) w:=by
 obtain ⟨a,cap,rfl,Jo⟩:∃ a cap,v= .slice a xs.length cap/\xs.length<=cap:=by
  rcases dx.1 Gx with ⟨rfl,rfl⟩| ⟨a,cap,rfl,hc,_⟩;exact ⟨none,0,rfl,az _⟩;exact ⟨some a,cap,rfl,hc⟩
 have e0:0<=h:=by omega
 have Na:h<=(cap:Int):=by omega
 have hb:(Instr.sliceBounds true xs.length cap (lo.map ρ) (hi.map ρ) none).run P w= .ok (l.toNat,h.toNat,cap) w:=by
  rcases h1 with ⟨rfl,rfl⟩| ⟨y,rfl,hy⟩<;>rcases h2 with ⟨rfl,rfl⟩| ⟨z,rfl,hz⟩<;>
   simp_all [Instr.sliceBounds,Instr.sliceBound,asIntOf]<;>omega
 cases hq:P.info? e with
 | none=>simp [hq] at hs
 | some ie=>
  have kE:ie.size=aO.size α:=by simpa [hq] using hs
  simp [execOp,ho,Instr.sliceAt,hx,run_underlying ht,Instr.slice,hb,sizeOf,typeInfo,hq,kE,jx]
theorem Is.slice {α:Type} [aO α] {w:World} {v:Value} {xs:List α} {l h:Int} (hx:Is w v xs) (hl:0<=l) (GA:l<=h) (hh:h<=xs.length):
  Is w (jx (aO.size α) v l h) ((xs.drop l.toNat).take (h.toNat - l.toNat)):=by
 have hlen:((xs.drop l.toNat).take (h.toNat - l.toNat)).length=h.toNat - l.toNat:=by simp;omega
 rcases dx.1 hx with ⟨rfl,rfl⟩| ⟨a,cap,rfl,hc,hm,h3⟩
 .refine dx.2 (.inl ⟨?_,by simp⟩);simp at hh;have h1:h=0:=by omega
  have h2:l=0:=by omega
  subst h1 h2;rfl
 .refine dx.2 (.inr ⟨if cap=l.toNat then a else a.add (l.toNat*aO.size α),cap - l.toNat,?_,by rw [hlen];omega,by omega,λi x hi=>?_⟩)
  .rw [hlen];unfold jx;simp only [lu];split<;>rfl
  .have pH:i< h.toNat - l.toNat:=by
    have:=(av.1 hi).1
    rwa [hlen] at this
   rw [dO,if_pos pH,List.getElem?_drop] at hi;obtain ⟨cs,h4,h5⟩:=h3 _ x hi;refine ⟨cs,λj c hj=>?_,h5⟩;have:=h4 j c hj;rw [if_neg (by omega),Go.Deep.add_add];rw [<-this];congr 2;rw [fj];omega
end
theorem o8 {k:IntKind} {n:Int} (h:(Lit.int k n).wf=true):k.wrap n=n:=by
 cases k<;>simp [Lit.wf,IntKind.min,ku,eI,ij] at h<;>simp [IntKind.wrap,eI,ij]<;>omega
theorem wrap64_in {n:Int} (h0: -9223372036854775808<=n) (h1:n<=9223372036854775807):IntKind.i64.wrap n=n:=o8 (WalkArith.wf_i64 ⟨h0,h1⟩)
end Go.Lm
namespace Go.Lm
open Go Go.RowKit

structure qo (w:World) (b:Nat) (o:Obj) (w':World):Prop where
 eq:w'= {w with heap:=w.heap.setIfInBounds b o}
 lt:b< w.heap.size
theorem qo.here {w w':World} {b:Nat} {o:Obj} (h:qo w b o w'):w'.heap[b]?=some o:=by rw [h.eq];simp [h.lt]
theorem qo.YY {w w':World} {b k:Nat} {o:Obj} (h:qo w b o w') (gD:k≠b):w'.heap[k]?=w.heap[k]?:=by
 rw [h.eq];simp [kx (Ne.symm gD)]
theorem qo.jG {w w':World} {b k:Nat} {o x:Obj} (h:qo w b o w') (gD:k≠b) (hx:w.heap[k]?=some x):w'.heap[k]?=some x:=by rw [h.YY gD];exact hx
theorem qo.size {w w':World} {b:Nat} {o:Obj} (h:qo w b o w'):w'.heap.size=w.heap.size:=by rw [h.eq];simp
theorem qo.below {w w' a:World} {b B:Nat} {o:Obj} (h:qo w b o w') (hb:Below B a w) (hB:B<=b):Below B a w':=by
 refine hb.trans ⟨?_,?_,?_,?_,λk hk=>h.YY (by omega)⟩;rw [h.eq];rw [h.eq];rw [h.eq];rw [h.size];exact az _
theorem rj.BF {g w w':World} {b:Nat} {o:Obj} (h:rj g w) (hn:tA g b) (hu:qo w b o w'):rj g w':=by
 refine ⟨by rw [hu.size];exact h.size,λa v hv=>?_⟩;have gD:a.block≠b:=λe=>by rw [hn a e] at hv;cases hv
 have h1:=h.mono a v hv;rw [World.cell?_of_block (w:=w) (hu.YY gD)];exact h1
section
variable {P:Program}
theorem N7 {w:World} {ρ:Operand->Value} {o:Oper} {x:Operand} {t:TypeId} {s:ByteArray} (ho:o.op= .range t x) (ht:P.underlying t=some .string) (hx:ρ x= .string s):
  (execOp ρ o).run P w= .ok (.value (ptr w.heap.size 0)) (w.alloc (.stringIter s 0)):=by
 simp [execOp,ho,Instr.range,hx,run_underlying ht,go_sem]
theorem QI {w:World} {ρ:Operand->Value} {o:Oper} {x:Operand} {s:ByteArray} {b pos:Nat} (hk:w.heap[b]?=some (.stringIter s pos)) (h:pos< s.size) (ho:o.op= .next x true) (hx:ρ x=ptr b 0):
  (execOp ρ o).run P w= .ok (.value (.tuple #[.bool true,.int .i64 pos,.int .i32 (Utf8.decode s pos).1])) {w with heap:=w.heap.setIfInBounds b (.stringIter s (pos+(Utf8.decode s pos).2))}:=by
 have h1:=Lib.run_next_any_at (P:=P) w b s pos o.type hk h;simp only [execOp,ho,hx,Sem.run_bind,h1,Result.andThen_ok,Sem.run_pure];rfl
theorem Wa {w:World} {ρ:Operand->Value} {o:Oper} {x:Operand} {s:ByteArray} {b pos:Nat} (hk:w.heap[b]?=some (.stringIter s pos)) (h:¬pos< s.size) (ho:o.op= .next x true) (hx:ρ x=ptr b 0):
  (execOp ρ o).run P w= .ok (.value (.tuple #[.bool false])) w:=by
 have h1:=Lib.run_next_end_at (P:=P) w b s pos o.type hk h;simp only [execOp,ho,hx,Sem.run_bind,h1,Result.andThen_ok,Sem.run_pure]
end
section
variable {P:Program} {ops:Array Oper} {rest:List Oper} {o:Oper} {n:Nat} {s:AL} {Q:Exit->Act->World->Prop} {w:World}
end

def eF {α:Type} [aO α] (g:World):List (List Value)->List α->Prop
 | [],[]=>True
 | c::cs,x::xs=>aO.rel g c x/\eF g cs xs
 | _,_=>False
theorem eF.mono {α:Type} [aO α] {g g':World} (h:bA g g'):∀ {cs:List (List Value)} {xs:List α},eF g cs xs->eF g' cs xs
 | [],[],_=>trivial
 | _::_,_::_,hh=>⟨aO.mono h hh.1,eF.mono h hh.2⟩
theorem eF.get {α:Type} [aO α] {g:World}:∀ {cs:List (List Value)} {xs:List α},eF g cs xs->∀ (i:Nat) (x:α),xs[i]?=some x->∃ c,aO.rel g c x/\∀ (j:Nat) (v:Value),c[j]?=some v->cs.flatten[i*aO.size α+j]?=some v
 | [],[],_,i,x,hx=>by simp at hx
 | c::cs,y::xs,h,0,x,hx=>by
  obtain rfl:y=x:=by simpa using hx
  refine ⟨c,h.1,λj v hj=>?_⟩;rw [bF,Nat.zero_mul,cd,aU (av.1 hj).1];exact hj
 | c::cs,y::xs,h,i+1,x,hx=>by
  obtain ⟨c',h1,h2⟩:=eF.get h.2 i x (by simpa using hx);refine ⟨c',h1,λj v hj=>?_⟩;have hl:=aO.len h.1;rw [bF,aZ (by rw [hl,fj];omega),hl];have:=h2 j v hj;rw [<-this];congr 1;rw [fj];omega
structure abP {α:Type} [aO α] (g w:World) (base:Nat) (e:TypeId) (v:Value) (xs:List α):Prop where
 ex:∃ cs:List (List Value),eF g cs xs/\w.ownsRow base e (aO.size α) v xs.length cs.flatten
theorem abP.is {α:Type} [aO α] {g w G:World} {base:Nat} {e:TypeId} {v:Value} {xs:List α} (h:abP g w base e v xs) (hg:bA g G) (hb:∀ a:Addr,base<=a.block->G.cell? a=w.cell? a):Is G v xs:=by
 obtain ⟨cs,h1,h2,h3⟩:=h.ex;rcases h3 with ⟨rfl,h0⟩| ⟨k,cap,cur,rfl,hbk,hk,hnc,fh,xf,Gy⟩;exact dx.2 (.inl ⟨rfl,aK h0⟩)
 .refine dx.2 (.inr ⟨⟨k,0,none⟩,cap,rfl,hnc,fh,λi x hx=>?_⟩);obtain ⟨c,hr,hc⟩:=h1.get i x hx;refine ⟨c,λj v hj=>?_,aO.mono hg hr⟩;rw [Addr.add_mid,hb ⟨k,_,none⟩ hbk];have h4:=hc j v hj;rw [<-Gy,dO] at h4;split at h4
  .simp [World.cell?,hk];simpa using h4
  .cases h4
section
variable {P:Program} {ops:Array Oper} {rest:List Oper} {o:Oper} {n:Nat} {s:AL} {Q:Exit->Act->World->Prop} {w:World}
end

theorem uS {w:World} {k:Nat} {x:Obj} (h:w.heap[k]?=some x):k< w.heap.size:=(aQ.1 h).1
theorem ah6 {α:Type} [aO α] (g:World):Is g (.slice none 0 0) ([]:List α):=dx.2 (.inl ⟨rfl,rfl⟩)
theorem Ho.of {P:Program} {f:FuncId} {args:Array Value} {w:World} {v:Value} {Q:World->Prop} (h:Calls P f args w λe w'=>e= .returned v/\Q w'):Ho P f args w λu w'=>u=v/\Q w':=
 Calls.mono h λ_ _ ⟨h1,h2⟩=>⟨v,h1,rfl,h2⟩
theorem Ho.mono {P:Program} {f:FuncId} {args:Array Value} {w:World} {R R':Value->World->Prop} (h:Ho P f args w R) (hr:∀ v w',R v w'->R' v w'):Ho P f args w R':=
 Calls.mono h λ_ _ ⟨v,h1,h2⟩=>⟨v,h1,hr v _ h2⟩
end Go.Lm
namespace Go.Lm
open Go Go.RowKit
section
variable {P:Program} {ops:Array Oper} {rest:List Oper} {o:Oper} {n:Nat} {s:AL} {Q:Exit->Act->World->Prop} {w:World} {d f:Nat}
end
end Go.Lm
namespace Go.Lm
open Go Go.RowKit

section
variable {P:Program} {ops:Array Oper} {rest:List Oper} {o:Oper} {n:Nat} {s:AL} {Q:Exit->Act->World->Prop} {w:World}
end
end Go.Lm
namespace Go.Lm
open Go Go.RowKit

class jZ (ρ:Type) where
 rsize:Nat
 rrel:World->List Value->ρ->Prop
 rmono:∀ {w w':World} {cs:List Value} {x:ρ},bA w w'->rrel w cs x->rrel w' cs x
 rlen:∀ {w:World} {cs:List Value} {x:ρ},rrel w cs x->cs.length=rsize
instance:jZ PUnit where
 rsize:=0
 rrel _ cs _:=cs= []
 rmono _ h:=h
 rlen h:=by rw [h];rfl
instance {α ρ:Type} [aO α] [jZ ρ]:jZ (α×ρ) where
 rsize:=aO.size α+jZ.rsize ρ
 rrel w cs x:=∃ c1 c2,cs=c1++c2/\aO.rel w c1 x.1/\jZ.rrel w c2 x.2
 rmono:=by rintro w w' cs x hl ⟨c1,c2,rfl,h1,h2⟩;exact ⟨c1,c2,rfl,aO.mono hl h1,jZ.rmono hl h2⟩
 rlen:=by rintro w cs x ⟨c1,c2,rfl,h1,h2⟩;rw [af,aO.len h1,jZ.rlen h2]
structure St (ρ:Type) where
 v:ρ
instance {ρ:Type} [jZ ρ]:aO (St ρ) where
 size:=jZ.rsize ρ
 agg:=true
 rel w cs x:=jZ.rrel w cs x.v
 mono hl h:=jZ.rmono hl h
 len h:=jZ.rlen h
section
variable {P:Program}
end
section
variable {ρ:Type} [jZ ρ] {w:World} {cs:List Value}
end
end Go.Lm
namespace Go.Lm
open Go Go.RowKit
abbrev QH:=St (ByteArray×List UInt8×PUnit)
abbrev amw:=St (Int×Int×Int×PUnit)
abbrev NodeD:=St (List ByteArray×Int×Int×amw×List UInt8×ByteArray×List QH×Bool×PUnit)
namespace NodeD
end NodeD
instance:Inhabited QH:=⟨⟨(⟨#[]⟩,[],⟨⟩)⟩⟩
instance:Inhabited NodeD:=⟨⟨([],0,0,⟨(0,0,0,⟨⟩)⟩,[],⟨#[]⟩,[],false,⟨⟩)⟩⟩
end Go.Lm
namespace Go.Lm
open Go Go.RowKit

abbrev Hp:=Nat->Option Obj
def Hp.join (h k:Hp):Hp:=λb=>match h b with| some o=>some o| none=>k b
def Hp.apart (h k:Hp):Prop:=∀ b,h b=none\/k b=none
theorem Hp.fK {h k:Hp} {b:Nat} {o:Obj} (e:h b=some o):h.join k b=some o:=by simp [Hp.join,e]
theorem Hp.mq {h k:Hp} {b:Nat} (e:h b=none):h.join k b=k b:=by simp [Hp.join,e]
theorem Hp.apart.symm {h k:Hp} (a:h.apart k):k.apart h:=λb=>(a b).symm
theorem Hp.join_comm {h k:Hp} (a:h.apart k):h.join k=k.join h:=by
 funext b;unfold Hp.join;rcases a b with e| e<;>rw [e]<;>cases h b<;>cases k b<;>simp_all
theorem Hp.join_assoc (h k m:Hp):(h.join k).join m=h.join (k.join m):=by
 funext b;unfold Hp.join;cases h b<;>rfl
theorem Hp.eO {h k m:Hp}:h.apart (k.join m)↔h.apart k/\h.apart m:=by
 constructor
 .intro a;refine ⟨λb=>?_,λb=>?_⟩
  .rcases a b with e| e
   .exact .inl e
   .right;unfold Hp.join at e;cases hk:k b<;>simp_all
  .rcases a b with e| e
   .exact .inl e
   .right;unfold Hp.join at e;cases hk:k b<;>simp_all
 .rintro ⟨a1,a2⟩ b;rcases a1 b with e| e
  .exact .inl e
  .rcases a2 b with e'| e'
   .exact .inl e'
   .right;simp [Hp.join,e,e']
structure Atom where
 sat:World->Hp->Prop
 mono:∀ {g g':World} {h:Hp},bA g g'->sat g h->sat g' h
def bt (g:World):List Atom->Hp->Prop
 | [],_=>True
 | a::l,h=>∃ h1 h2,Hp.apart h1 h2/\h=h1.join h2/\a.sat g h1/\bt g l h2
theorem bt.mono {g g':World} (m:bA g g'):∀ {l:List Atom} {h:Hp},bt g l h->bt g' l h
 | [],_,_=>trivial
 | _::_,_,⟨h1,h2,a,e,s1,s2⟩=>⟨h1,h2,a,e,Atom.mono _ m s1,s2.mono m⟩
theorem bt.swap {g:World} {a b:Atom} {l:List Atom} {h:Hp} (s:bt g (a::b::l) h):bt g (b::a::l) h:=by
 obtain ⟨h1,h2,ap,rfl,s1,k1,k2,ap2,rfl,s2,s3⟩:=s;obtain ⟨a1,a2⟩:=Hp.eO.1 ap;refine ⟨k1,h1.join k2,Hp.eO.2 ⟨a1.symm,ap2⟩,?_,s2,h1,k2,a2,rfl,s1,s3⟩;rw [<-Hp.join_assoc,Hp.join_comm a1,Hp.join_assoc]
def wQ:List Atom->Nat->Option Atom
 | [],_=>none
 | a::_,0=>some a
 | _::l,i+1=>wQ l i
def dD:List Atom->Nat->List Atom
 | [],_=>[]
 | _::l,0=>l
 | a::l,i+1=>a::dD l i
def wy:List Atom->Nat->Atom->List Atom
 | [],_,_=>[]
 | _::l,0,b=>b::l
 | a::l,i+1,b=>a::wy l i b
theorem bt.pick {g:World}:∀ {l:List Atom} {i:Nat} {a:Atom} {h:Hp},wQ l i=some a->bt g l h->bt g (a::dD l i) h
 | [],_,_,_,e,_=>by cases e
 | b::l,0,a,h,e,s=>by
  obtain rfl:b=a:=aj e;exact s
 | b::l,i+1,a,h,e,s=>by
  obtain ⟨h1,h2,ap,rfl,s1,s2⟩:=s;have:=bt.pick (l:=l) (i:=i) e s2;exact bt.swap ⟨h1,h2,ap,rfl,s1,this⟩
theorem bt.om {g:World}:∀ {l:List Atom} {i:Nat} {a b:Atom} {h:Hp},wQ l i=some b->bt g (a::dD l i) h->bt g (wy l i a) h
 | [],_,_,_,_,e,_=>by cases e
 | c::l,0,a,b,h,e,s=>s
 | c::l,i+1,a,b,h,e,s=>by
  obtain ⟨h1,h2,ap,rfl,s1,s2⟩:=s.swap;exact ⟨h1,h2,ap,rfl,s1,bt.om (l:=l) (i:=i) e s2⟩
structure cV where
 w:World
 g:World
 ds:List Deferred:=[]
abbrev cV.n (W:cV):Nat:=W.w.heap.size
structure qt (W:cV) (g w:World):Prop where
 uo:rj g w
 agr:Agr W.g W.w g
theorem qt.size {W:cV} {g w:World} (s:qt W g w):g.heap.size<=w.heap.size:=s.uo.size
theorem qt.mono {W:cV} {g w:World} (s:qt W g w):bA g w:=s.uo.mono
theorem qt.le {W:cV} {g w w':World} (s:qt W g w) (e:Le w w'):qt W g w':=⟨s.uo.le e,s.agr⟩
theorem qt.BF {W:cV} {g w w':World} {b:Nat} {o:Obj} (s:qt W g w) (hn:tA g b) (u:qo w b o w'):qt W g w':=⟨s.uo.BF hn u,s.agr⟩
def SL (W:cV) (g w:World) (l:List Atom):Prop:=
 ∃ h,Below W.n W.w w/\qt W g w/\(∀ b o,h b=some o->W.n<=b/\w.heap[b]?=some o/\tA g b)/\bt g l h
section
variable {W:cV} {g w w':World} {l:List Atom}
theorem SL.start (s:rj g w):SL {w:=w,g:=g} g w []:=⟨λ_=>none,Below.refl _ _,⟨s,Agr.refl g w⟩,(λ_ _ h=>by cases h),trivial⟩
theorem SL.ae8 (H:SL W g w l):qt W g w:=by obtain ⟨_,_,h,_⟩:=H;exact h
theorem SL.uo (H:SL W g w l):rj g w:=H.ae8.uo
theorem SL.m (H:SL W g w l):bA g w:=H.uo.mono
theorem SL.below (H:SL W g w l):Below W.n W.w w:=by obtain ⟨_,h,_⟩:=H;exact h
theorem SL.anc (H:SL W g w l):Le W.w w:=H.below
theorem SL.size (H:SL W g w l):W.n<=w.heap.size:=H.below.size
theorem SL.le (H:SL W g w l) (e:Le w w'):SL W g w' l:=by
 obtain ⟨h,b,s,o,t⟩:=H;refine ⟨h,e.QB b,s.le e,λk x hx=>?_,t⟩;obtain ⟨o1,o2,o3⟩:=o k x hx;exact ⟨o1,e.jG o2,o3⟩
theorem SL.cE {l':List Atom} (H:SL W g w l) (k:∀ h,bt g l h->bt g l' h):SL W g w l':=by
 obtain ⟨h,b,s,o,t⟩:=H;exact ⟨h,b,s,o,k h t⟩
theorem SL.pick (i:Nat) {a:Atom} (H:SL W g w l) (e:wQ l i=some a:=by exact rfl):SL W g w (a::dD l i):=H.cE λ_=>bt.pick e
theorem SL.om (i:Nat) {a b:Atom} (e:wQ l i=some b) (H:SL W g w (a::dD l i)):SL W g w (wy l i a):=H.cE λ_=>bt.om e
theorem SL.drop {a:Atom} (H:SL W g w (a::l)):SL W g w l:=by
 obtain ⟨h,b,s,o,h1,h2,ap,rfl,s1,s2⟩:=H;refine ⟨h2,b,s,λk x hx=>o k x ?_,s2⟩;rcases ap k with e| e;rw [Hp.mq e];exact hx;rw [e] at hx;cases hx
def perm (l:List Atom):List Nat->List Atom
 | []=>l
 | i::r=>match wQ l i with
  | some a=>a::perm (dD l i) r
  | none=>l
theorem SL.under {a:Atom} {l':List Atom} (H:SL W g w (a::l)) (k:∀ h,bt g l h->bt g l' h):SL W g w (a::l'):=
 H.cE λ_ ⟨h1,h2,ap,e,s1,s2⟩=>⟨h1,h2,ap,e,s1,k h2 s2⟩
theorem bt.perm:∀ (r:List Nat) {l:List Atom} {h:Hp},bt g l h->bt g (Lm.perm l r) h
 | [],_,_,s=>s
 | i::r,l,h,s=>by
  unfold Lm.perm;cases e:wQ l i with
  | none=>exact s
  | some a=>
   obtain ⟨h1,h2,ap,q,s1,s2⟩:=s.pick e;exact ⟨h1,h2,ap,q,s1,bt.perm r s2⟩
theorem SL.perm (r:List Nat) (H:SL W g w l):SL W g w (Lm.perm l r):=H.cE λ_=>bt.perm r
theorem SL.to {l':List Atom} (r:List Nat) (H:SL W g w l) (e:Lm.perm l r=l':=by exact rfl):SL W g w l':=e▸H.perm r
theorem SL.cast {l':List Atom} (H:SL W g w l) (e:l=l':=by exact rfl):SL W g w l':=e▸H
def obj (b:Nat) (o:Obj):Atom:=⟨λ_ h=>h b=some o,λ_ s=>s⟩
abbrev pg (b:Nat) (cs:Array Value) (t:TypeId):Atom:=obj b (.cells cs t (0,0))
theorem SL.Eh {b:Nat} {o:Obj} (H:SL W g w (obj b o::l)):W.n<=b/\w.heap[b]?=some o/\tA g b:=by
 obtain ⟨h,_,_,ow,h1,h2,ap,rfl,s1,s2⟩:=H;exact ow b o (Hp.fK s1)
theorem SL.has (i:Nat) {b:Nat} {o:Obj} (H:SL W g w l) (e:wQ l i=some (obj b o):=by exact rfl):w.heap[b]?=some o:=(H.pick i e).Eh.2.1
theorem SL.pg (i:Nat) {b:Nat} {cs:Array Value} {t:TypeId} (H:SL W g w l) (e:wQ l i=some (Lm.pg b cs t):=by exact rfl):Hq w b cs t:=H.has i e
theorem SL.new {b:Nat} {o:Obj} (H:SL W g w l) (n:xF w b o w'):SL W g w' (obj b o::l):=by
 obtain ⟨h,be,s,ow,t⟩:=H;have hb:h b=none:=by
  cases hx:h b with
  | none=>rfl
  | some x=>
   have:=(aQ.1 (ow b x hx).2.1).1;rw [n.at_] at this;omega
 refine ⟨Hp.join (λk=>if k=b then some o else none) h,n.below be (by rw [n.at_];exact be.size),s.le n.le,λk x hx=>?_,_,h,λk=>?_,rfl,if_pos rfl,t⟩
 .unfold Hp.join at hx;by_cases e:k=b
  .subst e;simp at hx;subst hx;exact ⟨by rw [n.at_];exact be.size,n.here,n.akY s.uo⟩
  .simp [e] at hx;obtain ⟨o1,o2,o3⟩:=ow k x hx;exact ⟨o1,n.jG o2,o3⟩
 .by_cases e:k=b
  .subst e;exact .inr hb
  .left;simp [e]
theorem SL.zF {b:Nat} {o o':Obj} (H:SL W g w (obj b o::l)) (u:qo w b o' w'):SL W g w' (obj b o'::l):=by
 obtain ⟨hW,hw,hn⟩:=H.Eh;obtain ⟨h,be,s,ow,h1,h2,ap,rfl,s1,s2⟩:=H;have h2b:h2 b=none:=by
  rcases ap b with e| e;rw [show h1 b=some o from s1] at e;cases e;exact e
 refine ⟨Hp.join (λk=>if k=b then some o' else h1 k) h2,u.below be hW,s.BF hn u,λk x hx=>?_,_,h2,λk=>?_,rfl,by show (if b=b then some o' else h1 b)=some o';rw [if_pos rfl],s2⟩
 .by_cases e:k=b
  .subst e;have:x=o':=by unfold Hp.join at hx;simp at hx;exact hx.symm
   subst this;exact ⟨hW,u.here,hn⟩
  .have Gx:(h1.join h2) k=some x:=by unfold Hp.join at hx ⊢;simpa [e] using hx
   obtain ⟨o1,o2,o3⟩:=ow k x Gx;exact ⟨o1,u.jG e o2,o3⟩
 .by_cases e:k=b
  .subst e;exact .inr h2b
  .rcases ap k with q| q
   .left;simp [e,q]
   .exact .inr q
theorem SL.BF (i:Nat) {b:Nat} {o o':Obj} (H:SL W g w l) (u:qo w b o' w') (e:wQ l i=some (obj b o):=by exact rfl):SL W g w' (wy l i (obj b o')):=by
 have:=(H.pick i e).zF u;exact this.om i e
theorem Wr.BF {b:Nat} {cs vW:Array Value} {t:TypeId} (u:Wr w b cs w') (h:Hq w b vW t):qo w b (.cells cs t (0,0)) w':=by
 refine ⟨?_,u.lt⟩;rw [u.eq];unfold World.setRow;congr 1;apply Array.ext_getElem?;intro k;rw [jb];by_cases e:b=k
 .subst e;unfold Hq at h;rw [if_pos rfl,h];simp [u.lt]
 .rw [if_neg e,kx e]
theorem SL.upd (i:Nat) {b:Nat} {cs vW:Array Value} {t:TypeId} (H:SL W g w l) (u:Wr w b cs w') (e:wQ l i=some (Lm.pg b vW t):=by exact rfl):SL W g w' (wy l i (Lm.pg b cs t)):=
 H.BF i (u.BF (H.pg i e)) e
def exA {α:Sort _} (f:α->List Atom):Atom:=⟨λg h=>∃ x,bt g (f x) h,λm ⟨x,s⟩=>⟨x,s.mono m⟩⟩
def sK (p:Prop):Atom:=⟨λ_ _=>p,λ_ s=>s⟩
theorem bt.app:∀ {a:List Atom} {h1 h2:Hp},Hp.apart h1 h2->bt g a h1->bt g l h2->bt g (a++l) (h1.join h2)
 | [],h1,h2,ap,_,s2=>by
  -- what is left over YZ the rest
  have key:∀ {l:List Atom} {h2:Hp},Hp.apart h1 h2->bt g l h2->bt g l (h1.join h2):=by
   intro l
   induction l with
   | nil=>intros;trivial
   | cons a l ih=>
    rintro h2 ap ⟨k1,k2,ap2,rfl,s1,s3⟩;obtain ⟨a1,a2⟩:=Hp.eO.1 ap;refine ⟨k1,h1.join k2,Hp.eO.2 ⟨a1.symm,ap2⟩,?_,s1,ih a2 s3⟩;rw [<-Hp.join_assoc,Hp.join_comm a1,Hp.join_assoc]
  exact key ap s2
 | a::r,h1,h2,ap,⟨k1,k2,ap2,e,s1,s3⟩,s2=>by
  subst e;have ap':=Hp.eO.1 ap.symm;refine ⟨k1,k2.join h2,Hp.eO.2 ⟨ap2,ap'.1.symm⟩,by rw [Hp.join_assoc],s1,bt.app ap'.2.symm s3 s2⟩
theorem bt.XH:∀ {a:List Atom} {h:Hp},bt g (a++l) h->∃ h1 h2,Hp.apart h1 h2/\h=h1.join h2/\bt g a h1/\bt g l h2
 | [],h,s=>⟨λ_=>none,h,λ_=>.inl rfl,rfl,trivial,s⟩
 | a::r,h,⟨k1,k2,ap,e,s1,s2⟩=>by
  obtain ⟨m1,m2,ap2,rfl,s3,s4⟩:=bt.XH s2;obtain ⟨a1,a2⟩:=Hp.eO.1 ap;exact ⟨k1.join m1,m2,(Hp.eO.2 ⟨a2.symm,ap2.symm⟩).symm,by rw [e,Hp.join_assoc],⟨k1,m1,a1,rfl,s1,s3⟩,s4⟩
theorem SL.CD {α:Sort _} {f:α->List Atom} (H:SL W g w (exA f::l)):∃ x,SL W g w (f x++l):=by
 obtain ⟨h,b,s,o,h1,h2,ap,rfl,⟨x,s1⟩,s2⟩:=H;exact ⟨x,_,b,s,o,s1.app ap s2⟩
theorem SL.zJ {α:Sort _} {f:α->List Atom} (x:α) (H:SL W g w (f x++l)):SL W g w (exA f::l):=H.cE λ_ s=>by
 obtain ⟨h1,h2,ap,rfl,s1,s2⟩:=s.XH;exact ⟨h1,h2,ap,rfl,⟨x,s1⟩,s2⟩
theorem SL.pure {p:Prop} (H:SL W g w (sK p::l)):p/\SL W g w l:=by
 refine ⟨?_,H.drop⟩;obtain ⟨h,b,s,o,h1,h2,ap,rfl,s1,s2⟩:=H;exact s1
theorem SL.ph {p:Prop} (hp:p) (H:SL W g w l):SL W g w (sK p::l):=H.cE λh s=>⟨λ_=>none,h,λ_=>.inl rfl,rfl,hp,s⟩
theorem SL.adg (H:SL W g w l) (e:Le w w'):SL W (oM g w w') w' l:=by
 obtain ⟨h,be,s,o,t⟩:=H;refine ⟨h,e.QB be,⟨P7 s.uo e,s.agr.oM s.uo e be.size⟩,λb x hx=>?_,t.mono (C4 s.uo e)⟩;obtain ⟨o1,o2,o3⟩:=o b x hx;exact ⟨o1,e.jG o2,Nc s.uo e (aQ.1 o2).1 o3⟩
def rm (g:World) (n b:Nat) (o:Obj):World:= {g with heap:=Array.ofFn (n:=n) λk=>if k.val=b then o else (g.heap[k.val]?).getD (.map #[] 0)}
theorem jJ {g:World} {n b:Nat} {o:Obj} (hs:g.heap.size<=n) (a:Addr) (hb:a.block≠b):(rm g n b o).cell? a=g.cell? a:=by
 unfold World.cell? rm;by_cases h:a.block< n
 .simp only [Array.getElem?_ofFn,h,dif_pos];rw [if_neg hb];cases hg:g.heap[a.block]?<;>simp
 .simp only [Array.getElem?_ofFn,h,dif_neg,not_false_iff];rw [iy (by omega)]
theorem SL.afy {b:Nat} {cs:Array Value} {t:TypeId} (H:SL W g w (Lm.pg b cs t::l)):∃ g',bA g g'/\SL W g' w l/\(∀ i,g'.cell? ⟨b,i,none⟩=cs[i]?):=by
 obtain ⟨hW,hw,hn⟩:=H.Eh;obtain ⟨h,be,s,o,h1,h2,ap,rfl,s1,s2⟩:=H;have eJ:b< w.heap.size:=(aQ.1 hw).1;have m:bA g (rm g w.heap.size b (.cells cs t (0,0))):=λa v hv=>by
  have gD:a.block≠b:=λe=>by rw [hn a e] at hv;cases hv
  rw [jJ s.size a gD];exact hv
 have hc:∀ (i:Nat) (sp),(rm g w.heap.size b (.cells cs t (0,0))).cell? ⟨b,i,sp⟩=w.cell? ⟨b,i,sp⟩:=λi sp=>by
  unfold World.cell? rm;rw [hw];simp [eJ]
 refine ⟨rm g w.heap.size b (.cells cs t (0,0)),m,⟨h2,be,⟨⟨by simp [rm],λa v hv=>?_⟩,λa ha=>?_⟩,λk x hx=>?_,s2.mono m⟩,λi=>?_⟩
 .by_cases e:a.block=b
  .have:a=⟨b,a.off,a.spot⟩:=by cases a;simp_all
   rw [this] at hv ⊢;rw [hc] at hv;exact hv
  .rw [jJ s.size a e] at hv;exact s.mono a v hv
 .have gD:a.block≠b:=λe=>by
   have h1:W.n<=b:=hW;unfold cV.n at h1;omega
  rw [jJ s.size a gD];exact s.agr a ha
 .have h1k:h1 k=none:=by
   rcases ap k with e| e;exact e;rw [e] at hx;cases hx
  obtain ⟨o1,o2,o3⟩:=o k x (by rw [Hp.mq h1k];exact hx);refine ⟨o1,o2,λa ha=>?_⟩;have hkb:k≠b:=λe=>by
   subst e;rw [show h1 k=some _ from s1] at h1k;cases h1k
  rw [jJ s.size a (by rw [ha];exact hkb)];exact o3 a ha
 .rw [hc];exact Hq.cell hw i
end
end Go.Lm
namespace Go.Lm
open Go Go.RowKit Go.Maps Go.ChangeMaps
open Go.WideElems (Fit rd rg pl rd_key rd_val rg_of)
open Go.WideShapes (sorted_perm)
open Go.MapKept

def eL (v:Value):Option (DataW Value×List MemPlace):=some (.held v,[])
class dF (κ:Type) where
 dec:DecidableEq κ
 lit:κ->Lit
 val:κ->Value
 ok:κ->Prop
 same:∀ a b:κ,(lit a).sameKey (lit b)= @decide (a=b) (dec a b)
 inj:∀ a b:κ,lit a=lit b->a=b
instance (priority:=low) {κ:Type} [dF κ]:DecidableEq κ:=dF.dec
instance:dF Int where
 dec:=inferInstance
 lit i:=.int .i64 i
 val i:=.int .i64 i
 ok i:=(Lit.int .i64 i).wf=true
 same a b:=by simp [Lit.sameKey]
 inj a b h:=by cases h;rfl
instance:dF ByteArray where
 dec:=inferInstance
 lit s:=.string s.data.toList
 val s:=.string s
 ok s:=s.size<=maxLen
 same a b:=by
  simp only [Lit.sameKey];rw [iE];simp only [beq_iff_eq,decide_eq_true_eq];constructor
  .intro h;cases a;cases b;rename_i x y;cases x;cases y;simp at h;rw [h]
  .intro h;rw [h]
 inj a b h:=by
  cases a;cases b;rename_i x y;cases x;cases y;simp at h;rw [h]
structure xH (P:Program) (k:TypeId) (κ:Type) [dF κ]:Prop where
 keyed:Keyed P k
 of:∀ x:κ,dF.ok x->keyOf P k (dF.val x)=some (dF.lit x)
 inv:∀ (v:Value) (x:κ),keyOf P k v=some (dF.lit x)->v=dF.val x/\dF.ok x
theorem wZ {P:Program} {k:TypeId} (h:P.underlying k=some (.int .i64)):xH P k Int where
 keyed:=int_keyed h
 of x hx:=keyOf_int_mk h hx
 inv v x hv:=by
  obtain ⟨y,rfl,h2,h3⟩:=Maps.keyOf_int_inv h hv;cases h2;exact ⟨rfl,h3⟩
theorem Ed {P:Program} {k:TypeId} (hk:P.underlying k=some .string) {key:Value} {kl:Lit} (h:keyOf P k key=some kl):∃ x:ByteArray,key= .string x/\kl= .string x.data.toList/\x.size<=maxLen:=by
 cases key<;>simp [keyOf,hk,mapKey] at h;obtain ⟨hw,rfl⟩:=h;exact ⟨_,rfl,rfl,hw⟩
theorem YX {P:Program} {k:TypeId} (h:P.underlying k=some .string):xH P k ByteArray where
 keyed:=string_keyed h
 of x hx:=by
  have Gx:x.size<=maxLen:=hx;simp [keyOf,h,mapKey,dF.val,dF.lit,Gx]
 inv v x hv:=by
  obtain ⟨y,rfl,h2,h3⟩:=Ed h hv;obtain rfl:=dF.inj (κ:=ByteArray) x y h2;exact ⟨rfl,h3⟩
section
variable {κ:Type} [dF κ]
def kK (p:κ×Value):Lit×DataW Value:=(dF.lit p.1,.held p.2)
def iS {α:Type} (l:List (κ×α)) (x:κ):Option α:=(l.find? λp=>decide (p.1=x)).map (·.2)
def mJ {α:Type} (l:List (κ×α)) (x:κ):List (κ×α):=l.filter λp=> !decide (p.1=x)
def qP {α:Type} (l:List (κ×α)) (x:κ) (v:α):List (κ×α):=(x,v)::mJ l x
theorem Qf (l:List (κ×Value)) (x:κ):(l.map kK).filter (notKey (dF.lit x))=(mJ l x).map kK:=by
 unfold mJ;rw [List.filter_map];congr 1;apply List.filter_congr;intro p _;simp [Function.comp,notKey,kK,dF.same]
structure lS (P:Program) (k:TypeId) (es:Array MapEntry) (clock:Nat) (l:List (κ×Value)):Prop where
 fit:Fit P k eL es clock
 perm:(es.toList.map (rg P k eL)).Perm (l.map kK)
theorem lS.size {P:Program} {k:TypeId} {es:Array MapEntry} {clock:Nat} {l:List (κ×Value)} (h:lS P k es clock l):es.size=l.length:=by
 have:=h.perm.length_eq;simpa using this
theorem lS.nodup {P:Program} {k:TypeId} {es:Array MapEntry} {clock:Nat} {l:List (κ×Value)} (h:lS P k es clock l) (K:Keyed P k):(l.map (·.1)).Nodup:=by
 have h1:=fit_apart K h.fit;have h2:(l.map kK).Pairwise (λp q=>p.1≠q.1):=(h.perm.pairwise_iff (λ{_ _} gD=>Ne.symm gD)).1 h1;rw [iZ] at h2;unfold List.Nodup;rw [iZ];exact h2.imp λgD e=>gD (by unfold kK;exact congrArg dF.lit e)
theorem mN {P:Program} {k:TypeId} {es:Array MapEntry} {clock:Nat} (F:Fit P k eL es clock) {x:MapEntry} (hx:x∈es.toList):∃ kl,keyOf P k x.key=some kl/\rg P k eL x=(kl,.held x.val):=by
 obtain ⟨y,hy⟩:=F.reads x hx;refine ⟨y.1,rd_key hy,?_⟩;rw [rg_of hy];obtain ⟨z,hz,hd⟩:=rd_val hy;have:z=(.held x.val,[]):=by
  have:eL x.val=some (.held x.val,[]):=rfl;rw [this] at hz;exact (aj hz).symm
 rw [this] at hd;cases y;simp at hd ⊢;exact hd
theorem oN {α:Type} {l:List (κ×α)} {x:κ} {v:α} (h:iS l x=some v):(x,v)∈l:=by
 unfold iS at h;cases hf:l.find? (λp=>decide (p.1=x)) with
 | none=>simp [hf] at h
 | some p=>
  simp only [hf,lu,km] at h;have h1:=List.find?_some hf;have h2:=pI hf;simp at h1;subst h1 h;exact h2
theorem lr {α:Type} {l:List (κ×α)} (hn:(l.map (·.1)).Nodup) {x:κ} {v:α} (h:(x,v)∈l):iS l x=some v:=by
 induction l with
 | nil=>cases h
 | cons p l ih=>
  simp only [cg,eD] at hn;unfold iS;rw [List.find?_cons];rcases aX.1 h with h| h
  .subst h;simp
  .have gD:p.1≠x:=λe=>hn.1 (by rw [e];exact aM.2 ⟨_,h,rfl⟩);simp only [gD,decide_false];exact ih hn.2 h
theorem nY {α:Type} {l:List (κ×α)} {x:κ}:iS l x=none↔∀ p∈l,p.1≠x:=by
 unfold iS;simp [jC]
def mapA (P:Program) (k:TypeId) (b:Nat) (l:List (κ×Value)):Atom:=
 ⟨λ_ h=>∃ es clock,h b=some (.map es clock)/\lS P k es clock l,λ_ s=>s⟩
variable {P:Program} {k:TypeId} {W:cV} {g w w':World} {l:List Atom} {b:Nat} {m:List (κ×Value)}
theorem SL.Vk (H:SL W g w (mapA P k b m::l)):∃ es clock,lS P k es clock m/\SL W g w (obj b (.map es clock)::l):=by
 obtain ⟨h,be,s,ow,h1,h2,ap,rfl,⟨es,clock,e,r⟩,s2⟩:=H;exact ⟨es,clock,r,_,be,s,ow,h1,h2,ap,rfl,e,s2⟩
theorem SL.ah2 {es:Array MapEntry} {clock:Nat} (r:lS P k es clock m) (H:SL W g w (obj b (.map es clock)::l)):SL W g w (mapA P k b m::l):=by
 obtain ⟨h,be,s,ow,h1,h2,ap,rfl,e,s2⟩:=H;exact ⟨_,be,s,ow,h1,h2,ap,rfl,⟨es,clock,e,r⟩,s2⟩
theorem SL.PH (H:SL W g w l) (n:xF w b (.map #[] 0) w'):SL W g w' (mapA P k b ([]:List (κ×Value))::l):=by
 refine (H.new n).ah2 ⟨?_,by simp⟩;obtain ⟨es,clock,h1,h2,h3,h4⟩:=World.ownsMap_made w P k eL;have:(World.alloc w (.map #[] 0)).heap[w.heap.size]?=some (.map #[] 0):=heap_alloc_new w _;rw [this] at h1;cases h1;exact h2
theorem SL.Gl (H:SL W g w (mapA P k b m::l)):m.length<=maxLen:=by
 obtain ⟨es,clock,r,_⟩:=H.Vk;rw [<-r.size];exact r.fit.size
theorem SL.adB (c:Bool) (H:SL W g w (mapA P k b m::l)) (K:xH P k κ) {t e:TypeId} (ht:P.underlying t=some (.map k e)) {z:Value} (hz:(zeroValue e).run P w= .ok z w) (x:κ) (hx:dF.ok x):
  (Instr.lookup t (.map (some b)) (dF.val x) c).run P w= .ok (if c then .tuple #[(iS m x).getD z,.bool (iS m x).isSome] else (iS m x).getD z) w:=by
 obtain ⟨es,clock,r,H1⟩:=H.Vk;have hb:=H1.has 0;have hn:=r.nodup K.keyed;rcases fit_look c K.keyed ht hz hb r.fit (K.of x hx) with ⟨hr,kJ,_⟩| ⟨e0,y,he,hke,hr,hy,_⟩
 .have:iS m x=none:=nY.2 λp hp e=>by
   have h1:kK p∈es.toList.map (rg P k eL):=r.perm.mem_iff.2 (aM.2 ⟨p,hp,rfl⟩);obtain ⟨q,hq,hqe⟩:=aM.1 h1;obtain ⟨kl,hk,xc⟩:=mN r.fit hq;rw [xc] at hqe;have:kl=dF.lit p.1:=congrArg Prod.fst hqe;subst this;rw [e] at hk;exact kJ q hq (K.inv _ _ hk).1
  rw [this];exact hr
 .have:iS m x=some e0.val:=by
   refine lr hn ?_;obtain ⟨kl,hk,xc⟩:=mN r.fit he;have h1:rg P k eL e0∈m.map kK:=r.perm.mem_iff.1 (aM.2 ⟨e0,he,rfl⟩);obtain ⟨p,hp,AA⟩:=aM.1 h1;rw [xc] at AA;have h2:dF.lit p.1=kl:=congrArg Prod.fst AA;have h3:(DataW.held p.2:DataW Value)= .held e0.val:=congrArg Prod.snd AA;rw [hke,K.of x hx] at hk;have h4:p.1=x:=dF.inj _ _ (h2.trans (aj hk).symm);have h5:p.2=e0.val:=DataW.held.inj h3;rw [<-h4,<-h5];exact hp
  rw [this];exact hr
theorem SL.PG (H:SL W g w (mapA P k b m::l)) (K:xH P k κ) {t e:TypeId} (ht:P.underlying t=some (.map k e)) (hlen:m.length< maxLen) (x:κ) (hx:dF.ok x) (v:Value):
  ∃ w',(Instr.mapUpdate t (.map (some b)) (dF.val x) v).run P w= .ok () w'/\SL W g w' (mapA P k b (qP m x v)::l):=by
 obtain ⟨es,clock,r,H1⟩:=H.Vk;have hb:=H1.has 0;obtain ⟨Ow,th,hr,F',aij,_⟩:=fit_store (R':=eL) K.keyed ht hb r.fit (by rw [r.size];exact hlen) (λ_ _ _ _ hz=>hz) (K.of x hx) (val:=v) (yv:=(.held v,[])) rfl;refine ⟨_,hr,(H1.zF ⟨rfl,uS hb⟩).ah2 ⟨F',?_⟩⟩;have h1:(Ow.toList.map (rg P k eL)).Perm (putKey (dF.lit x) (.held v) ((es.toList.map (rg P k eL)).foldr DataW.insert [])):=by
  rw [<-aij];exact (sorted_perm _).symm
 refine h1.trans ?_;have h2:∀ (p:Lit×DataW Value) (q:List (Lit×DataW Value)),(DataW.insert p q).Perm (p::q):=λp q=>by
  induction q with
  | nil=>exact List.Perm.refl _
  | cons a q ih=>
   unfold DataW.insert;split;exact List.Perm.refl _;exact (List.Perm.cons a ih).trans (List.Perm.swap _ _ _)
 refine (h2 _ _).trans ?_;unfold qP;rw [cg];refine List.Perm.cons _ ?_;rw [<-Qf];exact ((sorted_perm _).trans r.perm).filter _
theorem SL.YO (H:SL W g w (mapA P k b m::l)) {t e:TypeId} (ht:P.underlying t=some (.map k e)) (ty:TypeId):
  (Builtin.len_ #[t] ty #[.map (some b)]).run P w= .ok (.int .i64 m.length) w:=by
 obtain ⟨es,clock,r,H1⟩:=H.Vk;have hb:=H1.has 0;rw [<-r.size];simp [Builtin.len_,run_underlying ht,MapKept.run_getObj_map hb,goInt,Result.andThen]
theorem Vo {es:Array MapEntry} {clock:Nat} (F:Stamped es clock) {seen:Array Nat} {e:MapEntry} (he:e∈(leftOf es seen).toList):(leftOf es seen).toList.Perm (e::(leftOf es (seen.push e.born)).toList):=by
 have rR:=(stamped_iff es clock).1 F;have hem:e∈es.toList:=(mem_left he).1;have hes:=(mem_left he).2;have e1:(leftOf es (seen.push e.born)).toList=(leftOf es seen).toList.filter (λx=> !(x.born==e.born)):=by
  unfold leftOf;simp only [Array.toList_filter,List.filter_filter];apply List.filter_congr;intro x _;rw [contains_push];cases seen.contains x.born<;>cases (x.born==e.born)<;>rfl
 have e2:((leftOf es seen).toList.map (·.born)).Nodup:=by
  have:(leftOf es seen).toList.Sublist es.toList:=by
   unfold leftOf;simp only [Array.toList_filter];exact List.filter_sublist
  exact (this.map _).nodup rR.2.1
 rw [e1];generalize (leftOf es seen).toList=L at he e2;clear e1 hes
 induction L with
 | nil=>cases he
 | cons x L ih=>
  simp only [cg,eD] at e2;rcases aX.1 he with h| h
  .subst h;rw [lW];simp only [beq_self_eq_true,Bool.not_true,dP,if_false];refine List.Perm.cons _ ?_;rw [kr.2 λy hy=>?_];have:y.born≠e.born:=λq=>e2.1 (by rw [<-q];exact aM.2 ⟨y,hy,rfl⟩);simp [this]
  .have:x.born≠e.born:=λq=>e2.1 (by rw [q];exact aM.2 ⟨e,h,rfl⟩);rw [lW];simp only [this,bG,beq_eq_false_iff_ne,ne_eq,not_false_eq_true,if_true];exact (List.Perm.cons x (ih h e2.2)).trans (List.Perm.swap _ _ _)
end
end Go.Lm
namespace Go.Lm
open Go Go.RowKit

theorem Em {P:Program} {w:World} (base:Nat) (t ty e:TypeId) (i:TypeInfo) (z:Value) (size bytes:Nat) (ht:P.underlying t=some (.slice e)) (hi:P.info? e=some i) (hz:i.zero=some z)
  (MZ:i.size=size) (hby:i.bytes=bytes) (v:Value) (n:Nat) (xs:List Value) (Jl:w.ownsRow base e size v n xs)
  (a:Addr) (m c:Nat) (news:List Value) (hl:news.length=m*size) (Zf:∀ j u,news[j]?=some u->w.cell? (a.add j)=some u) (h1:∀ u∈news,u.oneCell'=true)
  (h63:n+m<=maxLen) (P5:(n+m)*bytes<=140737488355328) {v':Value} {w':World} (hr:(Builtin.append_ #[t,t] ty #[v,.slice (some a) m c]).run P w= .ok v' w'):
  ∀ k,v'.ownBlock=some k->v.ownBlock=some k\/w.heap.size<=k:=by
 subst MZ;subst hby
 have aif:n+m<=9223372036854775807:=by simp only [maxLen] at h63;omega
 rcases Jl.2 with ⟨rfl,rfl⟩| ⟨g,cap,cur,rfl,hbg,hg,hnc,fh,xf,Gy⟩
 .by_cases hm:m=0
  .subst hm;have gM:(Builtin.append_ #[t,t] ty #[.slice none 0 0,.slice (some a) 0 c]).run P w= .ok (.slice none 0 0) w:=by
    simp [Builtin.append_,run_underlying ht,sizeOf,typeInfo,hi,Builtin.lenOf,Builtin.firstCells,loadCells,loadCellsFrom]
   rw [gM] at hr;cases hr;intro k hk;simp [Value.ownBlock] at hk
  .rw [run_append_nil (P:=P) w t ty e i z ht hi hz a m c news hl Zf (by omega) (by omega) (by have hb:=P5;simp only [cd] at hb;omega)] at hr;cases hr;intro k hk;have:w.heap.size=k:=by simpa [Value.ownBlock] using hk
   exact .inr (by omega)
 .by_cases SU:n+m<=cap
  .have aoi:n*i.size+news.length<=cur.size:=by rw [hl,xf,<-fj];exact hZ _ SU
   rw [run_append_room (P:=P) w t ty e i ht hi g n cap cur hg a m c news hl Zf h1 SU aoi] at hr;cases hr;exact λk hk=>.inl hk
  .have holds:∀ j u,xs[j]?=some u->w.cell? ((⟨g,0,none⟩:Addr).add j)=some u:=Jl.cells (g:=g) rfl;rw [run_append_grow (P:=P) w t ty e i z ht hi hz ⟨g,0,none⟩ n cap xs Jl.1 holds a m c news hl Zf (by omega) (by omega) (growslice_fits (by omega) P5)] at hr;cases hr;intro k hk;have:w.heap.size=k:=by simpa [Value.ownBlock] using hk
   exact .inr (by omega)
theorem uq {P:Program} (w:World) (t ty e:TypeId) (i:TypeInfo) (ht:P.underlying t=some (.slice e)) (hi:P.info? e=some i) {base:Nat} {v:Value} {n:Nat} {xs:List Value} (Jl:w.ownsRow base e i.size v n xs):
  (Builtin.append_ #[t,t] ty #[v,.slice none 0 0]).run P w= .ok v w:=by
 rcases Jl.2 with ⟨rfl,rfl⟩| ⟨g,cap,cur,rfl,hbg,hg,hnc,fh,xf,Gy⟩;simp [Builtin.append_,run_underlying ht,sizeOf,typeInfo,hi,Builtin.lenOf,Builtin.firstCells];simp [Builtin.append_,run_underlying ht,sizeOf,typeInfo,hi,Builtin.lenOf,Builtin.firstCells,hnc,storeCells]
def ur (e:TypeId) (size:Nat) (v:Value) (n:Nat) (xs:List Value):Atom:=
 ⟨λ_ h=>xs.length=n*size/\((v= .slice none 0 0/\n=0)\/
  ∃ k cap cur,v= .slice (some ⟨k,0,none⟩) n cap/\h k=some (.cells cur e (0,0))/\n<=cap/\cap<=maxLen/\cur.size=cap*size/\cur.toList.take (n*size)=xs),λ_ s=>s⟩
section
variable {W:cV} {g w w':World} {l:List Atom} {e:TypeId} {size n:Nat} {v:Value} {xs:List Value}
theorem SL.row (H:SL W g w (ur e size v n xs::l)):w.ownsRow W.n e size v n xs:=by
 obtain ⟨h,be,s,ow,h1,h2,ap,rfl,⟨hl,hv⟩,s2⟩:=H;refine ⟨hl,?_⟩;rcases hv with hv| ⟨k,cap,cur,rfl,hk,r⟩;exact .inl hv
 .obtain ⟨o1,o2,o3⟩:=ow k _ (Hp.fK hk);exact .inr ⟨k,cap,cur,rfl,o1,o2,r⟩
theorem SL.X7 (e:TypeId) (size:Nat) (H:SL W g w l):SL W g w (ur e size (.slice none 0 0) 0 []::l):=
 H.cE λh s=>⟨λ_=>none,h,λ_=>.inl rfl,rfl,⟨by simp,.inl ⟨rfl,rfl⟩⟩,s⟩
theorem SL.wo {b cap:Nat} {cur:Array Value} (n:Nat) (H:SL W g w (Lm.pg b cur e::l)) (hn:n<=cap) (hm:cap<=maxLen) (hs:cur.size=cap*size):
  SL W g w (ur e size (.slice (some ⟨b,0,none⟩) n cap) n (cur.toList.take (n*size))::l):=H.cE λ_ ⟨h1,h2,ap,q,s1,s2⟩=>
 ⟨h1,h2,ap,q,⟨by
  have:n*size<=cap*size:=hZ _ hn;simp;omega,.inr ⟨b,cap,cur,rfl,s1,hn,hm,hs,rfl⟩⟩,s2⟩
theorem SL.ofRow (H:SL W g w (ur e size v n xs::l)):(v= .slice none 0 0/\n=0/\xs= []/\SL W g w l)\/
  ∃ k cap cur,v= .slice (some ⟨k,0,none⟩) n cap/\n<=cap/\cap<=maxLen/\cur.size=cap*size/\cur.toList.take (n*size)=xs/\SL W g w (Lm.pg k cur e::l):=by
 obtain ⟨h,be,s,ow,h1,h2,ap,rfl,⟨hl,hv⟩,s2⟩:=H;rcases hv with ⟨rfl,rfl⟩| ⟨k,cap,cur,rfl,hk,r1,r2,r3,r4⟩
 .refine .inl ⟨rfl,rfl,aK (by simpa using hl),h2,be,s,λk x hx=>ow k x ?_,s2⟩;rcases ap k with q| q
  .rw [Hp.mq q];exact hx
  .rw [q] at hx;cases hx
 .exact .inr ⟨k,cap,cur,rfl,r1,r2,r3,r4,_,be,s,ow,h1,h2,ap,rfl,hk,s2⟩
theorem SL.grown {v':Value} {n':Nat} {xs':List Value} (H:SL W g w (ur e size v n xs::l)) (ho:w'.ownsRow W.n e size v' n' xs') (hg:w.grownBy w' v.ownBlock)
  (hw:∀ k,v'.ownBlock=some k->v.ownBlock=some k\/w.heap.size<=k):SL W g w' (ur e size v' n' xs'::l):=by
 have eJ:=H.row.lt;obtain ⟨h,be,s,ow,h1,h2,ap,rfl,⟨hl,hv⟩,s2⟩:=H;have hb:Below W.n W.w w':=be.trans ((Below.refl _ w).grown hg be.size λk hk=>(eJ k hk).1);have aio:∀ k,v.ownBlock=some k->tA g k/\∃ o,h1 k=some o:=λk hk=>by
  rcases hv with ⟨rfl,_⟩| ⟨k',cap,cur,rfl,vY,_⟩;simp [Value.ownBlock] at hk
  .have:k'=k:=by simpa [Value.ownBlock] using hk
   subst this;exact ⟨(ow k' _ (Hp.fK vY)).2.2,_,vY⟩
 have hs:qt W g w':=by
  refine ⟨⟨Nat.le_trans s.size hg.size,λa x hx=>?_⟩,s.agr⟩;have h1:=s.mono a x hx;have eJ:=World.block_lt_of_cell? w a h1;have gD:some a.block≠v.ownBlock:=λq=>by
   have:=(aio a.block q.symm).1 a rfl;rw [this] at hx;cases hx
  rw [World.cell?_of_block (hg.block a.block eJ gD)];exact h1
 have rest:∀ k x,h2 k=some x->W.n<=k/\w'.heap[k]?=some x/\tA g k/\k< w.heap.size/\v.ownBlock≠some k:=λk x hx=>by
  have h1k:h1 k=none:=by
   rcases ap k with q| q;exact q;rw [q] at hx;cases hx
  obtain ⟨o1,o2,o3⟩:=ow k x (by rw [Hp.mq h1k];exact hx);have gD:v.ownBlock≠some k:=λq=>by
   obtain ⟨_,o,ho⟩:=aio k q;rw [h1k] at ho;cases ho
  exact ⟨o1,by rw [hg.block k (uS o2) (Ne.symm gD)];exact o2,o3,uS o2,gD⟩
 rcases ho.2 with ⟨rfl,rfl⟩| ⟨k',ZN,aee,rfl,hbk,vY,r⟩;exact ⟨h2,hb,hs,λk x hx=>⟨(rest k x hx).1,(rest k x hx).2.1,(rest k x hx).2.2.1⟩,λ_=>none,h2,λ_=>.inl rfl,rfl,⟨ho.1,.inl ⟨rfl,rfl⟩⟩,s2⟩
 .have hwk:=hw k' rfl;have h2k:h2 k'=none:=by
   cases hq:h2 k' with
   | none=>rfl
   | some x=>
    obtain ⟨_,_,_,q1,q2⟩:=rest k' x hq;rcases hwk with z| z;exact absurd z q2;omega
  refine ⟨Hp.join (λq=>if q=k' then some (.cells aee e (0,0)) else none) h2,hb,hs,λq x hq=>?_,_,h2,λq=>?_,rfl,⟨ho.1,.inr ⟨k',ZN,aee,rfl,if_pos rfl,r⟩⟩,s2⟩
  .by_cases eq:q=k'
   .subst eq;have:x= .cells aee e (0,0):=by unfold Hp.join at hq;simp at hq;exact hq.symm
    subst this;refine ⟨hbk,vY,?_⟩;rcases hwk with z| z;exact (aio q z).1
    .intro a ha;cases hc:g.cell? a with
     | none=>rfl
     | some x=>
      have h3:=World.block_lt_of_cell? g a hc;have h4:=s.size;omega
   .have SY:h2 q=some x:=by unfold Hp.join at hq;simpa [eq] using hq
    obtain ⟨o1,o2,o3,_⟩:=rest q x SY;exact ⟨o1,o2,o3⟩
  .by_cases eq:q=k'
   .subst eq;exact .inr h2k
   .left;simp [eq]
end

theorem eF.length {α:Type} [aO α] {g:World}:∀ {cs:List (List Value)} {xs:List α},eF g cs xs->cs.length=xs.length/\cs.flatten.length=xs.length*aO.size α
 | [],[],_=>⟨rfl,by simp⟩
 | c::cs,x::xs,h=>by
  obtain ⟨h1,h2⟩:=eF.length h.2;have h3:=aO.len h.1;refine ⟨by simp [h1],?_⟩;rw [bF,af,h2,h3,aq,fj];omega
theorem eF.append {α:Type} [aO α] {g:World}:∀ {cs ds:List (List Value)} {xs ys:List α},eF g cs xs->eF g ds ys->eF g (cs++ds) (xs++ys)
 | [],_,[],_,_,h=>h
 | _::_,_,_::_,_,h,k=>⟨h.1,eF.append h.2 k⟩
def BN {α:Type} [aO α] (e:TypeId) (v:Value) (xs:List α):Atom:=
 ⟨λg h=>∃ cs:List (List Value),eF g cs xs/\(ur e (aO.size α) v xs.length cs.flatten).sat g h,λm ⟨cs,r,s⟩=>⟨cs,r.mono m,s⟩⟩
section
variable {α:Type} [aO α] {W:cV} {g w w':World} {l:List Atom} {e:TypeId} {v:Value} {xs:List α}
theorem SL.py (H:SL W g w (BN e v xs::l)):∃ cs:List (List Value),eF g cs xs/\SL W g w (ur e (aO.size α) v xs.length cs.flatten::l):=by
 obtain ⟨h,be,s,ow,h1,h2,ap,rfl,⟨cs,r,q⟩,s2⟩:=H;exact ⟨cs,r,_,be,s,ow,h1,h2,ap,rfl,q,s2⟩
theorem SL.XQ {cs:List (List Value)} (r:eF g cs xs) (H:SL W g w (ur e (aO.size α) v xs.length cs.flatten::l)):SL W g w (BN e v xs::l):=
 H.cE λ_ ⟨h1,h2,ap,q,s1,s2⟩=>⟨h1,h2,ap,q,⟨cs,r,s1⟩,s2⟩
theorem SL.zI (α:Type) [aO α] (e:TypeId) (H:SL W g w l):SL W g w (BN (α:=α) e (.slice none 0 0) []::l):=(H.X7 e (aO.size α)).XQ (cs:=[]) trivial
theorem SL.XO (H:SL W g w (BN e v xs::l)):abP g w W.n e v xs:=by
 obtain ⟨cs,r,H1⟩:=H.py;exact ⟨cs,r,H1.row⟩
theorem SL.ae6 (H:SL W g w (BN e v xs::l)):Is w v xs:=H.XO.is H.m λ_ _=>rfl
theorem SL.qy (H:SL W g w (BN e v xs::l)):∃ g',bA g g'/\SL W g' w l/\Is g' v xs:=by
 have ho:=H.XO;obtain ⟨cs,r,H1⟩:=H.py;rcases H1.ofRow with ⟨rfl,hn,hx,H2⟩| ⟨k,cap,cur,rfl,h1,h2,h3,h4,H2⟩
 .refine ⟨g,bA.refl g,H2,?_⟩;have:xs= []:=aK hn;subst this;exact ah6 g
 .obtain ⟨g',m,H3,hc⟩:=H2.afy;refine ⟨g',m,H3,dx.2 (.inr ⟨⟨k,0,none⟩,cap,rfl,h1,h2,λi x hx=>?_⟩)⟩;obtain ⟨c,hr,Jn⟩:=r.get i x hx;refine ⟨c,λj v hj=>?_,aO.mono m hr⟩;rw [Addr.add_mid,hc];have h5:=Jn j v hj;rw [<-h4,dO] at h5;split at h5
  .simpa using h5
  .cases h5
theorem ND {ys:List α} {a:Addr} {n c:Nat} (h:Is w (.slice (some a) n c) ys):n=ys.length/\∃ ds:List (List Value),eF w ds ys/\∀ j u,ds.flatten[j]?=some u->w.cell? (a.add j)=some u:=by
 rcases dx.1 h with ⟨h,_⟩| ⟨a',cap,h,_,_,h3⟩;cases h
 .cases h;refine ⟨rfl,?_⟩;clear h;have key:∀ (ys:List α) (a:Addr),(∀ (i:Nat) (x:α),ys[i]?=some x->∃ cs:List Value,(∀ (j:Nat) (c:Value),cs[j]?=some c->w.cell? (a.add (i*aO.size α+j))=some c)/\aO.rel w cs x)->
    ∃ ds:List (List Value),eF w ds ys/\∀ j u,ds.flatten[j]?=some u->w.cell? (a.add j)=some u:=by
   intro ys
   induction ys with
   | nil=>exact λ_ _=>⟨[],trivial,λj u h=>by simp at h⟩
   | cons y ys ih=>
    intro a h;obtain ⟨c,h1,h2⟩:=h 0 y rfl;have hl:=aO.len h2;obtain ⟨ds,h4,h5⟩:=ih (a.add (aO.size α)) λi x hx=>by
     obtain ⟨cs,q1,q2⟩:=h (i+1) x (by simpa using hx);refine ⟨cs,λj c hj=>?_,q2⟩;have:=q1 j c hj;rw [Go.Deep.add_add,<-this];congr 2;rw [fj];omega
    refine ⟨c::ds,⟨h2,h4⟩,λj u hj=>?_⟩;rw [bF] at hj;by_cases Oo:j< c.length
    .rw [aU Oo] at hj;have:=h1 j u hj;rw [<-this];congr 2;omega
    .rw [aZ (by omega)] at hj;have:=h5 _ u hj;rw [Go.Deep.add_add] at this;rw [<-this];congr 2;omega
  exact key ys a h3
theorem Dj {ys:List α} {a:Addr} {n c:Nat} {g w:World} (h:Is g (.slice (some a) n c) ys) (m:bA g w):n=ys.length/\∃ ds:List (List Value),eF g ds ys/\∀ j u,ds.flatten[j]?=some u->w.cell? (a.add j)=some u:=by
 obtain ⟨h1,ds,h2,h3⟩:=ND h;exact ⟨h1,ds,h2,λj u hj=>m _ _ (h3 j u hj)⟩
class iW (α:Type) [aO α]:Prop where
 one:∀ {g:World} {cs:List Value} {x:α},aO.rel g cs x->∀ u∈cs,u.oneCell'=true
theorem eF.one [iW α] {g:World}:∀ {cs:List (List Value)} {xs:List α},eF g cs xs->∀ u∈cs.flatten,u.oneCell'=true
 | [],[],_,u,h=>by simp at h
 | c::cs,x::xs,h,u,hu=>by
  rw [bF,aY] at hu;rcases hu with hu| hu;exact iW.one h.1 u hu;exact eF.one h.2 u hu
instance:iW Int:=⟨λh u hu=>by rw [h.1] at hu;simp at hu;rw [hu];rfl⟩
instance:iW Bool:=⟨λh u hu=>by rw [show _=_ from h] at hu;simp at hu;rw [hu];rfl⟩
instance:iW UInt8:=⟨λh u hu=>by rw [show _=_ from h] at hu;simp at hu;rw [hu];rfl⟩
instance:iW ByteArray:=⟨λh u hu=>by rw [h.1] at hu;simp at hu;rw [hu];rfl⟩
instance:iW (List α):=⟨λh u hu=>by
 obtain ⟨v,rfl,hv⟩:=h;simp at hu;subst hu;rcases hv with ⟨rfl,_⟩| ⟨a,cap,rfl,_⟩<;>rfl⟩
def Rd {α:Type} [aO α] (g w:World) (y:Value) (ys:List α):Prop:=
 (y= .slice none 0 0/\ys= [])\/∃ a c,y= .slice (some a) ys.length c/\ys.length<=c/\c<=maxLen/\∃ ds:List (List Value),eF g ds ys/\∀ j u,ds.flatten[j]?=some u->w.cell? (a.add j)=some u
theorem Is.rd {y:Value} {ys:List α} (h:Is g y ys) (m:bA g w):Rd g w y ys:=by
 rcases dx.1 h with ⟨rfl,rfl⟩| ⟨a,cap,rfl,h1,h2,_⟩;exact .inl ⟨rfl,rfl⟩
 .obtain ⟨_,ds,h3,h4⟩:=Dj h m;exact .inr ⟨a,cap,rfl,h1,h2,ds,h3,h4⟩
theorem SL.akP (H:SL W g w (BN e v xs::l)):Rd g w v xs:=by
 obtain ⟨cs,r,H1⟩:=H.py;have rS:=H1.row;rcases rS.2 with ⟨rfl,h0⟩| ⟨k,cap,cur,rfl,_,_,h1,h2,_⟩;exact .inl ⟨rfl,aK h0⟩;exact .inr ⟨⟨k,0,none⟩,cap,rfl,h1,h2,cs,r,rS.cells (g:=k) rfl⟩
theorem eF.part {g:World}:∀ {cs:List (List Value)} {xs:List α} (i n:Nat),eF g cs xs->eF g ((cs.drop i).take n) ((xs.drop i).take n)
 | cs,xs,0,0,_=>by simp [eF]
 | [],[],0,_+1,_=>trivial
 | _::_,_::_,0,n+1,h=>⟨h.1,by simpa using eF.part 0 n h.2⟩
 | [],[],i+1,n,h=>by simp [eF]
 | _::cs,_::xs,i+1,n,h=>by simpa using eF.part i n h.2
theorem eF.Jv {g:World}:∀ {cs:List (List Value)} {xs:List α} (i:Nat),eF g cs xs->i<=xs.length->(cs.take i).flatten.length=i*aO.size α
 | _,_,0,_,_=>by simp
 | [],[],i+1,_,hi=>by simp at hi
 | c::cs,x::xs,i+1,h,hi=>by
  have:=eF.Jv i h.2 (by simpa using hi);simp only [List.take_succ_cons,bF,af,this,aO.len h.1,fj];omega
theorem Rd.slice {y:Value} {ys:List α} {a b:Int} (h:Rd g w y ys) (ha:0<=a) (hab:a<=b) (hb:b<=ys.length):
  Rd g w (jx (aO.size α) y a b) ((ys.drop a.toNat).take (b.toNat - a.toNat)):=by
 rcases h with ⟨rfl,rfl⟩| ⟨ad,c,rfl,h1,h2,ds,h3,h4⟩
 .left;simp at hb;have h1:b=0:=by omega
  have h2:a=0:=by omega
  subst h1 h2;exact ⟨rfl,rfl⟩
 .have hlen:((ys.drop a.toNat).take (b.toNat - a.toNat)).length=b.toNat - a.toNat:=by simp;omega
  refine .inr ⟨if c=a.toNat then ad else ad.add (a.toNat*aO.size α),c - a.toNat,?_,by rw [hlen];omega,by omega,(ds.drop a.toNat).take (b.toNat - a.toNat),h3.part _ _,λj u hj=>?_⟩
  .rw [hlen];unfold jx;simp only [lu];split<;>rfl
  .by_cases he:b.toNat - a.toNat=0
   .rw [he] at hj;simp at hj
   .rw [if_neg (by omega),Go.Deep.add_add];refine h4 _ u ?_;have e1:ds=ds.take a.toNat++((ds.drop a.toNat).take (b.toNat - a.toNat)++(ds.drop a.toNat).drop (b.toNat - a.toNat)):=by rw [bY,bY]
    rw [e1,eT,eT,aZ (by rw [h3.Jv a.toNat (by omega)];omega),h3.Jv a.toNat (by omega)];rw [aU (by
     have:=(av.1 hj).1;omega)]
    rw [show a.toNat*aO.size α+j - a.toNat*aO.size α=j by omega];exact hj
theorem SL.append {P:Program} {t ty:TypeId} {bytes:Nat} [iW α] (H:SL W g w (BN e v xs::l)) {y:Value} {ys:List α} (hy:Rd g w y ys)
  (ht:P.underlying t=some (.slice e)) (hi:(P.info? e).map (λi=>(i.size,i.bytes,i.zero.isSome))=some (aO.size α,bytes,true)) (hz:((P.info? e).bind (·.zero)).map (·.cells.size)=some (aO.size α)) (sW:0< aO.size α)
  (hlen:(xs.length+ys.length)*bytes<=140737488355328) (aqe:xs.length+ys.length<=9223372036854775807):
  ∃ v' w',(Builtin.append_ #[t,t] ty #[v,y]).run P w= .ok v' w'/\SL W g w' (BN e v' (xs++ys)::l)/\(v'= .slice none 0 0->v= .slice none 0 0/\ys= []):=by
 cases hq:P.info? e with
 | none=>simp [hq] at hi
 | some i=>
  simp only [hq,lu,km,Prod.mk.injEq,o6] at hi hz;obtain ⟨hs,hby,hzz⟩:=hi;cases SR:i.zero with
  | none=>simp [SR] at hzz
  | some z=>
   simp only [SR,lu,km] at hz;obtain ⟨cs,hrel,H1⟩:=H.py;have rS:=H1.row;have H2:=H;rcases hy with ⟨rfl,rfl⟩| ⟨a,cap,rfl,Jo,fh,ds,VC,pf⟩
   .have gM:=uq (P:=P) w t ty e i ht hq (base:=W.n) (v:=v) (n:=xs.length) (xs:=cs.flatten) (by rw [hs];exact rS);exact ⟨v,w,gM,by simpa using H2,λq=>⟨q,rfl⟩⟩
   .have afC:=(eF.length VC).2;obtain ⟨v',w',gM,Zd,M6,Vz⟩:=run_append_own (P:=P) w W.n t ty e i z (aO.size α) bytes ht hq SR hs hby hz sW v xs.length cs.flatten rS a ys.length cap ds.flatten afC
     pf (eF.one VC) (by unfold maxLen;omega) hlen H.size
    have PU:=Em (P:=P) W.n t ty e i z (aO.size α) bytes ht hq SR hs hby v xs.length cs.flatten rS a ys.length cap ds.flatten afC pf (eF.one VC) (by unfold maxLen;omega) hlen gM;refine ⟨v',w',gM,?_,λq=>⟨(Vz.1 q).1,aK (Vz.1 q).2⟩⟩;refine SL.XQ (cs:=cs++ds) (hrel.append VC) ?_;have e1:(cs++ds).flatten=cs.flatten++ds.flatten:=by simp
    rw [e1,af];exact H1.grown Zd M6 PU
end
theorem cells_slice1 {P:Program} {w:World} {r:Reach} {base:Nat} {t e:TypeId} {v:Value} (ht:P.underlying t=some (.slice e)) (h:Value.okWide P w r base t v):v.cells= #[v]:=by
 obtain ⟨a,l,c,rfl⟩:=WideShapes.okWide_slice ht h;rfl
end Go.Lm

namespace Go.Lm
open Go Go.RowKit
section
variable {P:Program}
end
end Go.Lm
namespace Go.Lm
open Go Go.RowKit
section
variable {P:Program}
theorem JS {ρ:Operand->Value} {w:World} {o:Oper} {x:Operand} {t k e:TypeId} (ho:o.op= .call {callee:=.builtin .len,args:= #[x],argTypes:= #[t]}) (ht:P.underlying t=some (.map k e)) (hx:ρ x= .map none):
  (execOp ρ o).run P w= .ok (.value (.int .i64 0)) w:=by
 simp [execOp,ho,resolve,invoke,builtin,hx,Maps.len_nil ht]
end
end Go.Lm
namespace Go.Lm
open Go Go.RowKit Go.Maps Go.ChangeMaps
open Go.WideElems (Fit rd rg pl rd_key rd_val rg_of)
open Go.WideShapes (sorted_perm)
open Go.MapKept
section
variable {κ:Type} [dF κ] {P:Program} {k:TypeId}
def Wh (P:Program) (k:TypeId) (w:World) (v:Value) (ob:Array MapEntry×Nat) (m:List (κ×Value)):Prop:=
 (v= .map none/\m= [])\/∃ b,v= .map (some b)/\w.heap[b]?=some (.map ob.1 ob.2)/\lS P k ob.1 ob.2 m
def JX (P:Program) (k:TypeId) (w:World) (v:Value) (m:List (κ×Value)):Prop:=∃ ob,Wh P k w v ob m
variable {w w':World} {v:Value} {ob:Array MapEntry×Nat} {m:List (κ×Value)}
theorem JX.nodup (h:JX P k w v m) (K:xH P k κ):(m.map (·.1)).Nodup:=by
 obtain ⟨ob,h| ⟨b,_,_,h⟩⟩:=h;rw [h.2];simp;exact h.nodup K.keyed
theorem JX.YS (h:JX P k w v m):m.length<=maxLen:=by
 obtain ⟨ob,h| ⟨b,_,_,h⟩⟩:=h;rw [h.2];simp;rw [<-h.size];exact h.fit.size
theorem JX.len {t e:TypeId} (h:JX P k w v m) (ht:P.underlying t=some (.map k e)) (ty:TypeId):(Builtin.len_ #[t] ty #[v]).run P w= .ok (.int .i64 m.length) w:=by
 obtain ⟨ob,⟨rfl,rfl⟩| ⟨b,rfl,hb,r⟩⟩:=h;rw [Maps.len_nil ht];rfl
 .rw [<-r.size];simp [Builtin.len_,run_underlying ht,MapKept.run_getObj_map hb,goInt,Result.andThen]
theorem JX.look (c:Bool) (h:JX P k w v m) (K:xH P k κ) {t e:TypeId} (ht:P.underlying t=some (.map k e)) {z:Value} (hz:(zeroValue e).run P w= .ok z w) (x:κ) (hx:dF.ok x):
  (Instr.lookup t v (dF.val x) c).run P w= .ok (if c then .tuple #[(iS m x).getD z,.bool (iS m x).isSome] else (iS m x).getD z) w:=by
 obtain ⟨ob,⟨rfl,rfl⟩| ⟨b,rfl,hb,r⟩⟩:=h
 .have:=Maps.look_nil c K.keyed ht hz (K.of x hx);exact this
 .have hn:=r.nodup K.keyed;rcases fit_look c K.keyed ht hz hb r.fit (K.of x hx) with ⟨hr,kJ,_⟩| ⟨e0,y,he,hke,hr,hy,_⟩
  .have:iS m x=none:=nY.2 λp hp e=>by
    have h1:kK p∈ob.1.toList.map (rg P k eL):=r.perm.mem_iff.2 (aM.2 ⟨p,hp,rfl⟩);obtain ⟨q,hq,hqe⟩:=aM.1 h1;obtain ⟨kl,hk,xc⟩:=mN r.fit hq;rw [xc] at hqe;have:kl=dF.lit p.1:=congrArg Prod.fst hqe;subst this;rw [e] at hk;exact kJ q hq (K.inv _ _ hk).1
   rw [this];exact hr
  .have:iS m x=some e0.val:=by
    refine lr hn ?_;obtain ⟨kl,hk,xc⟩:=mN r.fit he;have h1:rg P k eL e0∈m.map kK:=r.perm.mem_iff.1 (aM.2 ⟨e0,he,rfl⟩);obtain ⟨p,hp,AA⟩:=aM.1 h1;rw [xc] at AA;have h2:dF.lit p.1=kl:=congrArg Prod.fst AA;have h3:(DataW.held p.2:DataW Value)= .held e0.val:=congrArg Prod.snd AA;rw [hke,K.of x hx] at hk;have h4:p.1=x:=dF.inj _ _ (h2.trans (aj hk).symm);have h5:p.2=e0.val:=DataW.held.inj h3;rw [<-h4,<-h5];exact hp
   rw [this];exact hr
variable {W:cV} {g:World} {l:List Atom}
theorem SL.adA {b:Nat} (H:SL W g w (mapA P k b m::l)):JX P k w (.map (some b)) m:=by
 obtain ⟨es,clock,r,H1⟩:=H.Vk;exact ⟨(es,clock),.inr ⟨b,rfl,H1.has 0,r⟩⟩
def MU (P:Program) (k:TypeId) (v:Value) (ob:Array MapEntry×Nat) (r:Nat) (left:List (κ×Value)):Atom:=
 ⟨λ_ h=>(v= .map none/\left= []/\∃ a s c,h r=some (.mapIter none a s c))\/
  ∃ b since seen c0,v= .map (some b)/\h r=some (.mapIter (some b) since seen c0)/\(∀ x∈ob.1.toList,x.born< since)/\since<=c0/\since<=ob.2/\((leftOf ob.1 seen).toList.map (rg P k eL)).Perm (left.map kK),λ_ s=>s⟩
theorem UP {t e:TypeId} (h:Wh P k w v ob m) (ht:P.underlying t=some (.map k e)):
  ∃ o,(Instr.range t v).run P w= .ok (.pointer (some ⟨w.heap.size,0,none⟩)) (w.alloc o)/\∀ {W:cV} {g:World} {l:List Atom},SL W g w l->SL W g (w.alloc o) (MU P k v ob w.heap.size m::l):=by
 rcases h with ⟨rfl,rfl⟩| ⟨b,rfl,hb,r⟩
 .refine ⟨_,run_range_nilMap w t k e ht,λH=>?_⟩;exact (H.new (xF.mk' w _)).cE λ_ ⟨h1,h2,ap,e,s1,s2⟩=>⟨h1,h2,ap,e,.inl ⟨rfl,rfl,_,_,_,s1⟩,s2⟩
 .refine ⟨_,run_range_map w t k e b ob.1 ob.2 ht hb,λH=>?_⟩;refine (H.new (xF.mk' w _)).cE λ_ ⟨h1,h2,ap,e,s1,s2⟩=>⟨h1,h2,ap,e,.inr ⟨b,ob.2,#[],ob.2,rfl,s1,r.fit.stamped.1,az _,az _,?_⟩,s2⟩;have:(leftOf ob.1 #[]).toList=ob.1.toList:=by simp [leftOf]
  rw [this];exact r.perm
theorem HQ {w:World} {r a c:Nat} {s:Array Nat} (ty:TypeId) (hr:w.heap[r]?=some (.mapIter none a s c)):(Instr.next (.pointer (some ⟨r,0,none⟩)) false ty).run P w= .ok (.tuple #[.bool false]) w:=by
 simp only [Instr.next,getObj,Sem.run_bind,Sem.run,hr,Result.andThen]
 rfl
theorem xD {ρ:Operand->Value} {o:Oper} {x y:Operand} {t:TypeId} {c:Bool} {mv kv r:Value} (ho:o.op= .lookup t x y c) (hx:ρ x=mv) (hy:ρ y=kv) (h:(Instr.lookup t mv kv c).run P w= .ok r w):
  (execOp ρ o).run P w= .ok (.value r) w:=by
 simp [execOp,ho,hx,hy,h]
theorem zp {ρ:Operand->Value} {o:Oper} {t:TypeId} (ho:o.op= .makeMap t none):(execOp ρ o).run P w= .ok (.value (.map (some w.heap.size))) (w.alloc (.map #[] 0)):=by
 simp [execOp,ho,Instr.makeMap,go_sem]
theorem N8 {ρ:Operand->Value} {o:Oper} {x y z:Operand} {t:TypeId} {mv kv vv:Value} {w':World} (ho:o.op= .mapUpdate t x y z) (hx:ρ x=mv) (hy:ρ y=kv) (hz:ρ z=vv) (h:(Instr.mapUpdate t mv kv vv).run P w= .ok () w'):
  (execOp ρ o).run P w= .ok .skip w':=by
 simp [execOp,ho,hx,hy,hz,h]
end
end Go.Lm
namespace Go.Lm
open Go Go.RowKit Go.Maps Go.ChangeMaps
open Go.WideElems (Fit rd rg pl rd_key rd_val rg_of)
open Go.WideShapes (sorted_perm)
open Go.MapKept
section
variable {κ:Type} [dF κ] {P:Program} {k:TypeId} {W:cV} {g w:World} {l:List Atom} {v:Value} {ob:Array MapEntry×Nat} {m:List (κ×Value)}
def mH (P:Program) (k:TypeId) (v:Value) (ob:Array MapEntry×Nat) (r:Nat) (left:List (κ×Value)) (cur:Option (κ×Value)):Atom:=
 ⟨λg h=>(MU P k v ob r left).sat g h/\∀ x y,cur=some (x,y)->∃ b since seen e,v= .map (some b)/\h r=some (.mapIter (some b) since (Array.push seen (MapEntry.born e)) ob.2)/\e∈ob.1.toList/\e.key=dF.val x/\e.val=y,λmm s=>⟨(MU P k v ob r left).mono mm s.1,s.2⟩⟩
theorem SL.ah4 {r:Nat} {left:List (κ×Value)} {cur:Option (κ×Value)} (H:SL W g w (mH P k v ob r left cur::l)):SL W g w (MU P k v ob r left::l):=H.cE λ_ ⟨h1,h2,ap,e,s1,s2⟩=>⟨h1,h2,ap,e,s1.1,s2⟩
theorem SL.ah5 {r:Nat} {left:List (κ×Value)} (H:SL W g w (MU P k v ob r left::l)):SL W g w (mH P k v ob r left none::l):=H.cE λ_ ⟨h1,h2,ap,e,s1,s2⟩=>⟨h1,h2,ap,e,⟨s1,λ_ _ h=>by cases h⟩,s2⟩
theorem SL.Vt {r:Nat} {left:List (κ×Value)} {x:κ} {y:Value} (H:SL W g w (mH P k v ob r left (some (x,y))::l)) (hm:Wh P k w v ob m):(Instr.entry (.pointer (some ⟨r,0,none⟩))).run P w= .ok (.tuple #[dF.val x,y]) w:=by
 obtain ⟨h,be,s,ow,h1,h2,ap,rfl,⟨_,q⟩,s2⟩:=H;obtain ⟨b,since,seen,e,hv,hr,hem,hk,hy⟩:=q x y rfl;rcases hm with ⟨hm,_⟩| ⟨b',hm,Zo,rep⟩;rw [hv] at hm;cases hm;have:b=b':=by rw [hv] at hm;cases hm;rfl
 subst this;have hrw:=(ow r _ (Hp.fK hr)).2.1;obtain ⟨es,clock⟩:=ob;rw [<-hk,<-hy];exact run_entry_at _ r b since seen es clock e hrw Zo hem ((stamped_iff es clock).1 rep.fit.stamped).2.1
theorem SL.PO {r:Nat} {left:List (κ×Value)} {x:κ} {y:Value} (H:SL W g w (mH P k v ob r left (some (x,y))::l)) (hm:Wh P k w v ob m) (K:xH P k κ) (aoe:∀ a b:κ,dF.val a=dF.val b->a=b):dF.ok x/\(x,y)∈m:=by
 obtain ⟨h,be,s,ow,h1,h2,ap,rfl,⟨_,q⟩,s2⟩:=H;obtain ⟨b,since,seen,e,hv,hr,hem,hk,hy⟩:=q x y rfl;rcases hm with ⟨hm,_⟩| ⟨b',hm,Zo,rep⟩;rw [hv] at hm;cases hm;obtain ⟨kl,P3,xc⟩:=mN rep.fit hem;have Zi:rg P k eL e∈m.map kK:=rep.perm.mem_iff.1 (aM.2 ⟨e,hem,rfl⟩);obtain ⟨p2,hp2,PW⟩:=aM.1 Zi;rw [xc] at PW;have q1:dF.lit p2.1=kl:=congrArg Prod.fst PW;have q2:(DataW.held p2.2:DataW Value)= .held e.val:=congrArg Prod.snd PW;subst q1;obtain ⟨hkv,xd⟩:=K.inv _ _ P3;have q4:=DataW.held.inj q2;have hx:p2.1=x:=aoe _ _ (hkv.symm.trans hk);subst hx;rw [<-hy,<-q4];exact ⟨xd,hp2⟩
theorem PQ {r:Nat} {left mG:List (κ×Value)} {cur:Option (κ×Value)} {h:Hp} (p:left.Perm mG) (s:(mH P k v ob r left cur).sat g h):(mH P k v ob r mG cur).sat g h:=by
 refine ⟨?_,s.2⟩;rcases s.1 with ⟨h1,h2,h3⟩| ⟨b,since,seen,c0,h1,h2,h3,h4,h5,h6⟩;exact .inl ⟨h1,by rw [h2] at p;exact p.symm.eq_nil,h3⟩;exact .inr ⟨b,since,seen,c0,h1,h2,h3,h4,h5,h6.trans (p.map kK)⟩
theorem SL.Vs {r:Nat} {left:List (κ×Value)} {cur:Option (κ×Value)} (H0:SL W g w (mH P k v ob r left cur::l)) (hm:Wh P k w v ob m) (K:xH P k κ) (ty:TypeId):
  (left= []/\(Instr.next (.pointer (some ⟨r,0,none⟩)) false ty).run P w= .ok (.tuple #[.bool false]) w)\/
  ∃ x y mG w',left.Perm ((x,y)::mG)/\dF.ok x/\(x,y)∈m/\(Instr.next (.pointer (some ⟨r,0,none⟩)) false ty).run P w= .ok (.tuple #[.bool true,dF.val x,y]) w'/\SL W g w' (mH P k v ob r mG (some (x,y))::l):=by
 have H:=H0.ah4;obtain ⟨h,be,s,ow,h1,h2,ap,rfl,q,s2⟩:=H;rcases q with ⟨rfl,rfl,a,sn,c,hr⟩| ⟨b,since,seen,c0,rfl,hr,hold,hsc,hsk,M5⟩;exact .inl ⟨rfl,HQ ty (ow r _ (Hp.fK hr)).2.1⟩;obtain ⟨hW,hrw,hrn⟩:=ow r _ (Hp.fK hr);rcases hm with ⟨hm,_⟩| ⟨b',hm,Zo,rep⟩;cases hm;have:b=b':=by cases hm;rfl
 subst this;have gD:r≠b:=λe=>by rw [e,Zo] at hrw;cases hrw
 obtain ⟨es,clock⟩:=ob;simp only at Zo rep hold hsk M5;rcases run_next_at (P:=P) w ty r b since c0 seen es clock hrw Zo hold hsc with ⟨h0,gM⟩| ⟨e,he,w1,hal,gM⟩
 .refine .inl ⟨?_,gM⟩;have:(leftOf es seen).toList= []:=by
   apply aK;simpa using h0
  rw [this] at M5;have:=M5.length_eq;simp at this;exact aK this.symm
 .right;obtain ⟨hem,hes⟩:=mem_left he;obtain ⟨kl,hk,xc⟩:=mN rep.fit hem;have yS:rg P k eL e∈left.map kK:=M5.mem_iff.1 (aM.2 ⟨e,he,rfl⟩);have Zi:rg P k eL e∈m.map kK:=rep.perm.mem_iff.1 (aM.2 ⟨e,hem,rfl⟩);obtain ⟨p,hp,AA⟩:=aM.1 yS;rw [xc] at AA;have e1:dF.lit p.1=kl:=congrArg Prod.fst AA;have e2:(DataW.held p.2:DataW Value)= .held e.val:=congrArg Prod.snd AA;subst e1;have e3:p.2=e.val:=DataW.held.inj e2;obtain ⟨hkv,xd⟩:=K.inv _ _ hk;obtain ⟨a,c,hac⟩:=List.append_of_mem hp;have hwl:Le w w1:=by rcases hal with rfl| rfl;exact Le.refl _;exact Le.drew _
  have vX:w1.heap[r]?=some (.mapIter (some b) since seen c0):=hwl.jG hrw;have u:qo w1 r (.mapIter (some b) since (seen.push e.born) clock) (setBlock w1 r (.mapIter (some b) since (seen.push e.born) clock)):=⟨rfl,uS vX⟩;have anP:p=(p.1,e.val):=by rw [<-e3]
  refine ⟨p.1,e.val,a++c,_,?_,xd,?_,by rw [hkv] at gM;exact gM,?_⟩
  .rw [hac,<-anP];exact List.perm_middle
  .obtain ⟨p2,hp2,PW⟩:=aM.1 Zi;rw [xc] at PW;have q1:dF.lit p2.1=dF.lit p.1:=congrArg Prod.fst PW;have q2:(DataW.held p2.2:DataW Value)= .held e.val:=congrArg Prod.snd PW;have q3:=dF.inj _ _ q1;have q4:=DataW.held.inj q2;rw [<-q3,<-q4];exact hp2
  .have hle:=SL.le (l:=[]) (W:=W) (g:=g) ⟨λ_=>none,be,s,(λ_ _ h=>by cases h),trivial⟩ hwl;refine ⟨Hp.join (λq=>if q=r then some (.mapIter (some b) since (seen.push e.born) clock) else h1 q) h2,u.below hle.below hW,hle.ae8.BF hrn u,λq o hq=>?_,_,h2,λq=>?_,rfl,
    ⟨.inr ⟨b,since,seen.push e.born,clock,rfl,if_pos rfl,hold,hsk,hsk,?_⟩,λx y hxy=>?_⟩,s2⟩
   .by_cases eq:q=r
    .subst eq;have:o= .mapIter (some b) since (seen.push e.born) clock:=by unfold Hp.join at hq;simp at hq;exact hq.symm
     subst this;exact ⟨hW,u.here,hrn⟩
    .have SY:(h1.join h2) q=some o:=by unfold Hp.join at hq ⊢;simpa [eq] using hq
     obtain ⟨o1,o2,o3⟩:=ow q o SY;exact ⟨o1,u.jG eq (hwl.jG o2),o3⟩
   .by_cases eq:q=r
    .subst eq;rcases ap q with z| z
     .rw [hr] at z;cases z
     .exact .inr z
    .rcases ap q with z| z
     .left;simp [eq,z]
     .exact .inr z
   .have h3:=(Vo rep.fit.stamped he).map (rg P k eL);rw [cg,xc] at h3;have h4:(left.map kK).Perm (kK p::(a++c).map kK):=by
     rw [hac,eR,cg,eR];exact List.perm_middle
    have h5:=(M5.symm.trans h3).symm.trans h4;have h6:kK p=(dF.lit p.1,.held e.val):=by unfold kK;rw [e3]
    rw [h6] at h5;exact List.Perm.cons_inv h5
   .have hxy:=aj hxy;cases hxy;exact ⟨b,since,seen,e,rfl,if_pos rfl,hem,hkv,rfl⟩
end
end Go.Lm
namespace Go.Lm
open Go Go.RowKit Go.Maps Go.ChangeMaps
open Go.WideElems (Fit rd rg pl rd_key rd_val rg_of)
open Go.WideShapes (sorted_perm)
open Go.MapKept
section
variable {κ:Type} [dF κ] {P:Program} {k:TypeId} {W:cV} {g w:World} {l:List Atom} {m:List (κ×Value)} {b:Nat}
def abS (w w':World):Prop:=∀ (b:Nat) (cs:Array Value) (t:TypeId),Hq w b cs t->Hq w' b cs t
theorem Vq {es:Array MapEntry} {c:Nat} {o:Obj} (h:w.heap[b]?=some (.map es c)):abS w (setBlock w b o):=λk cs t hk=>by
 have gD:b≠k:=λe=>by
  subst e;unfold Hq at hk;rw [h] at hk;cases hk
 unfold Hq at*;simp only [setBlock];rw [kx gD];exact hk
def Gk (P:Program) (k:TypeId) (b:Nat) (m:List (κ×Value)) (x:κ) (st:Nat):Atom:=
 ⟨λ_ h=>∃ es clock,h b=some (.map es clock)/\lS P k es clock m/\∃ e∈es.toList,e.key=dF.val x/\e.born=st,λ_ s=>s⟩
theorem D6 {t e:TypeId} {es:Array MapEntry} {clock:Nat} {key z:Value} {kl:Lit} (K:Keyed P k) (ht:P.underlying t=some (.map k e)) (hz:(zeroValue e).run P w= .ok z w) (hb:w.heap[b]?=some (.map es clock)) (F:Fit P k eL es clock) (CY:keyOf P k key=some kl):
  ∃ (val:Value) (st:Nat) (Ow:Array MapEntry) (th:Nat),(Instr.mapEntry t (.map (some b)) key).run P w= .ok (.tuple #[val,goInt st]) (setBlock w b (.map Ow th))/\(Instr.mapUpdate t (.map (some b)) key val).run P w= .ok () (setBlock w b (.map Ow th))/\(∃ e∈Ow.toList,e.key=key/\e.born=st)/\((val=z/\∀ e∈es.toList,e.key≠key)\/∃ e∈es.toList,e.key=key/\e.val=val):=by
 rcases K.find w CY es.toList F.keys with ⟨h1,h2⟩| ⟨j,e0,h1,h2,h3⟩
 .refine ⟨z,clock,es.push ⟨key,z,clock⟩,clock+1,?_,?_,⟨⟨key,z,clock⟩,by simp,rfl,rfl⟩,.inl ⟨rfl,h2⟩⟩
  .simp [Instr.mapEntry,run_underlying ht,MapKept.run_getObj_map hb,K.check w false CY,h1,hz,MapKept.run_setObj_map _ hb,Result.andThen,setBlock]
  .simp [Instr.mapUpdate,run_underlying ht,MapKept.run_getObj_map hb,K.check w false CY,h1,MapKept.run_setObj_map _ hb,Result.andThen,setBlock]
 .have hj:es[j]?=some e0:=by simpa using h2
  have hm:(es.modify j λe=> {e with key:=key})=es.modify j λe=> {e with key:=key,val:=e0.val}:=by
   apply Array.ext_getElem?;intro i;rw [jb,jb];by_cases e:j=i;subst e;rw [if_pos rfl,if_pos rfl,hj];rfl;rw [if_neg e,if_neg e]
  refine ⟨e0.val,e0.born,es.modify j λe=> {e with key:=key,val:=e0.val},clock,?_,?_,⟨{e0 with key:=key,val:=e0.val},?_,rfl,rfl⟩,.inr ⟨e0,fc h2,h3,rfl⟩⟩;simp [Instr.mapEntry,run_underlying ht,MapKept.run_getObj_map hb,K.check w false CY,h1,hj,h3,K.stays w CY,MapKept.run_setObj_map _ hb,Result.andThen,setBlock,hm];simp [Instr.mapUpdate,run_underlying ht,MapKept.run_getObj_map hb,K.check w false CY,h1,hj,h3,K.stays w CY,MapKept.run_setObj_map _ hb,Result.andThen,setBlock]
  .refine fc (i:=j) ?_;rw [eS,jb,if_pos rfl,hj];rfl
theorem lS.get_none {es:Array MapEntry} {clock:Nat} (r:lS P k es clock m) (K:xH P k κ) {x:κ} (h:∀ e∈es.toList,e.key≠dF.val x):iS m x=none:=nY.2 λp hp e=>by
 have h1:kK p∈es.toList.map (rg P k eL):=r.perm.mem_iff.2 (aM.2 ⟨p,hp,rfl⟩);obtain ⟨q,hq,hqe⟩:=aM.1 h1;obtain ⟨kl,hk,xc⟩:=mN r.fit hq;rw [xc] at hqe;have:kl=dF.lit p.1:=congrArg Prod.fst hqe;subst this;rw [e] at hk;exact h q hq (K.inv _ _ hk).1
theorem lS.get_some {es:Array MapEntry} {clock:Nat} (r:lS P k es clock m) (K:xH P k κ) {x:κ} (hx:dF.ok x) {e0:MapEntry} (he:e0∈es.toList) (hke:e0.key=dF.val x):iS m x=some e0.val:=by
 refine lr (r.nodup K.keyed) ?_;obtain ⟨kl,hk,xc⟩:=mN r.fit he;have h1:rg P k eL e0∈m.map kK:=r.perm.mem_iff.1 (aM.2 ⟨e0,he,rfl⟩);obtain ⟨p,hp,AA⟩:=aM.1 h1;rw [xc] at AA;have h2:dF.lit p.1=kl:=congrArg Prod.fst AA;have h3:(DataW.held p.2:DataW Value)= .held e0.val:=congrArg Prod.snd AA;rw [hke,K.of x hx] at hk;have h4:p.1=x:=dF.inj _ _ (h2.trans (aj hk).symm);have h5:p.2=e0.val:=DataW.held.inj h3;rw [<-h4,<-h5];exact hp
theorem SL.Vl (H:SL W g w (mapA P k b m::l)) (K:xH P k κ) {t e:TypeId} (ht:P.underlying t=some (.map k e)) {z:Value} (hz:(zeroValue e).run P w= .ok z w) (hlen:m.length< maxLen) (x:κ) (hx:dF.ok x):
  ∃ (val:Value) (st:Nat) (w':World),(Instr.mapEntry t (.map (some b)) (dF.val x)).run P w= .ok (.tuple #[val,goInt st]) w'/\SL W g w' (Gk P k b (qP m x val) x st::l)/\(val=z\/∃ p∈m,p.2=val)/\val=(iS m x).getD z:=by
 obtain ⟨es,clock,r,H1⟩:=H.Vk;have hb:=H1.has 0;obtain ⟨val,st,Ow,th,h1,h2,⟨e',he,hk,hs⟩,hval⟩:=D6 K.keyed ht hz hb r.fit (K.of x hx);obtain ⟨w',h3,H3⟩:=H.PG K ht hlen x hx val;rw [h2] at h3;cases h3;refine ⟨val,st,_,h1,?_,?_⟩;rotate_left
 .rcases hval with ⟨h,kJ⟩| ⟨e0,he0,hke,h⟩
  .exact ⟨.inl h,by rw [r.get_none K kJ,h];rfl⟩
  .refine ⟨?_,by rw [r.get_some K hx he0 hke,h];rfl⟩;obtain ⟨kl,P3,xc⟩:=mN r.fit he0;have yS:rg P k eL e0∈m.map kK:=r.perm.mem_iff.1 (aM.2 ⟨e0,he0,rfl⟩);obtain ⟨p,hp,AA⟩:=aM.1 yS;rw [xc] at AA;have q2:(DataW.held p.2:DataW Value)= .held e0.val:=congrArg Prod.snd AA;exact .inr ⟨p,hp,(DataW.held.inj q2).trans h⟩
 obtain ⟨h,be,s,ow,g1,g2,ap,rfl,⟨es2,clock2,hb2,r2⟩,s2⟩:=H3;have hb3:=(ow b _ (Hp.fK hb2)).2.1;have hb4:(setBlock w b (.map Ow th)).heap[b]?=some (.map Ow th):=by simp [setBlock,uS hb]
 rw [hb4] at hb3;cases hb3;exact ⟨_,be,s,ow,g1,g2,ap,rfl,⟨Ow,th,hb2,r2,e',he,hk,hs⟩,s2⟩
theorem SL.entryStore {x:κ} {st:Nat} {val:Value} (H:SL W g w (Gk P k b (qP m x val) x st::l)) (K:xH P k κ) (hx:dF.ok x) (t:TypeId) (v:Value):
  ∃ w',(Instr.entryStore t (.map (some b)) (goInt st) v).run P w= .ok () w'/\SL W g w' (mapA P k b (qP m x v)::l)/\abS w w':=by
 obtain ⟨h,be,s,ow,g1,g2,ap,rfl,⟨es,clock,hb,r,e,he,hke,hse⟩,s2⟩:=H;have Zo:=(ow b _ (Hp.fK hb)).2.1;have rR:=(stamped_iff es clock).1 r.fit.stamped;obtain ⟨j,hj⟩:=List.getElem?_of_mem he;have Oo:j< es.size:=by simpa using (av.1 hj).1
 have hje:es[j]?=some e:=by simpa using hj
 have hf:es.findIdx? (λe=>(e.born:Int)==(st:Int))=some j:=by
  rw [Array.findIdx?_eq_some_iff_getElem];have e1:es[j]=e:=by rw [cL Oo] at hje;exact aj hje
  refine ⟨Oo,by rw [e1];simp [hse],λi hi=>?_⟩;have pH:i< es.size:=by omega
  intro hc;have hb1:es[i].born=st:=Int.ofNat_inj.1 (eq_of_beq hc);have h1:=rR.2.1;have h2:(es.toList.map (·.born))[i]?=some st:=by simp [pH,hb1]
  have h3:(es.toList.map (·.born))[j]?=some st:=by simp [Oo,e1,hse]
  have:=(List.getElem?_inj (by simpa using pH) h1).1 (h2.trans h3.symm);omega
 let Ow:=es.modify j λe=> {e with val:=v};have gM:(Instr.entryStore t (.map (some b)) (goInt st) v).run P w= .ok () (setBlock w b (.map Ow clock)):=by
  simp [Instr.entryStore,MapKept.run_getObj_map Zo,goInt,asInt,asIntOf,hf,MapKept.run_setObj_map _ Zo,Result.andThen,setBlock,Ow]
 refine ⟨_,gM,?_,Vq Zo⟩;have Zg:Ow.toList=es.toList.set j {e with val:=v}:=by
  apply List.ext_getElem?;intro i;rw [eS,jb,List.getElem?_set];by_cases q:j=i;subst q;rw [if_pos rfl,if_pos rfl,hje];simp [Oo];rw [if_neg q,if_neg q,eS]
 obtain ⟨kl,hk,xc⟩:=mN r.fit he;have P3:kl=dF.lit x:=by rw [hke,K.of x hx] at hk;exact (aj hk).symm
 have F':Fit P k eL Ow clock:=by
  refine ⟨by simpa [Ow] using r.fit.size,stamped_modify r.fit.stamped _ _ (λ_ _=>rfl) (λ_ _ _=>rfl),λy hy=>?_⟩;rw [Zg] at hy;rcases List.mem_or_eq_of_mem_set hy with hy| rfl;exact r.fit.reads y hy
  .exact ⟨(kl,.held v),by
    exact Go.WideElems.rd_mk (R:=eL) (born:=e.born) hk (show eL v=some (.held v,[]) from rfl)⟩
 have H1:SL W g w (obj b (.map es clock)::l):=⟨_,be,s,ow,g1,g2,ap,rfl,hb,s2⟩;refine (H1.zF ⟨rfl,uS Zo⟩).ah2 ⟨F',?_⟩
 -- the readings:only the one entry's element turns
 have anI:rg P k eL {e with val:=v}=(dF.lit x,.held v):=by
  obtain ⟨kl2,qS,anH⟩:=mN F' (x:= {e with val:=v}) (by rw [Zg];exact dH.2 ⟨j,by simpa using Oo,by simp⟩);rw [anH];have:kl2=kl:=by
   have h1:keyOf P k e.key=some kl2:=qS;rw [h1] at hk;exact aj hk
  rw [this,P3]
 have hap:=Maps.fit_apart K.keyed r.fit;have aih:∀ (L:List MapEntry) (j:Nat),L[j]?=some e->(L.set j {e with val:=v}).Perm ({e with val:=v}::L.eraseIdx j):=by
  intro L
  induction L with
  | nil=>intro j h;simp at h
  | cons y L ih=>
   intro j h;cases j with
   | zero=>simp
   | succ j=>simp only [List.set_cons_succ,List.eraseIdx_cons_succ];exact (List.Perm.cons y (ih j (by simpa using h))).trans (List.Perm.swap _ _ _)
 have Y9:∀ (L:List MapEntry) (j:Nat),L[j]?=some e->L.Perm (e::L.eraseIdx j):=by
  intro L
  induction L with
  | nil=>intro j h;simp at h
  | cons y L ih=>
   intro j h;cases j with
   | zero=>simp at h;subst h;simp
   | succ j=>simp only [List.eraseIdx_cons_succ];exact (List.Perm.cons y (ih j (by simpa using h))).trans (List.Perm.swap _ _ _)
 have p1:=(aih es.toList j hj).map (rg P k eL);have p2:=(Y9 es.toList j hj).map (rg P k eL);rw [cg,anI] at p1;rw [cg,xc,P3] at p2;have p3:((dF.lit x,DataW.held e.val)::(es.toList.eraseIdx j).map (rg P k eL)).Perm (kK (x,val)::(mJ m x).map kK):=p2.symm.trans r.perm
 -- the entry of key x is the one
 have uy:(dF.lit x,(DataW.held e.val:DataW Value))∈kK (x,val)::(mJ m x).map kK:=p3.mem_iff.1 (by simp);have hval:kK (x,val)=(dF.lit x,(DataW.held e.val:DataW Value)):=by
  rcases aX.1 uy with h| h;exact h.symm
  .obtain ⟨q,hq,hqe⟩:=aM.1 h;have h1:dF.lit q.1=dF.lit x:=congrArg Prod.fst hqe;have h2:=dF.inj _ _ h1;unfold mJ at hq;have:=(fQ.1 hq).2;simp [h2] at this
 rw [hval] at p3;have p4:=List.Perm.cons_inv p3;rw [Zg];refine p1.trans ?_;unfold qP;rw [cg];exact List.Perm.cons _ p4
end
end Go.Lm
namespace Go.Lm
open Go Go.RowKit

section
variable {W:cV} {g w:World}
end

structure UTy where
 U:TypeId
 N:TypeId
 kI:TypeId
 kS:TypeId
structure rJ where
 pg:Nat
 kind:Int
 mode:Int
 uid:Int
 gid:Int
 vd:Value
 data:List UInt8
 target:ByteArray
 vx:Value
 ana:List QH
 opq:Bool
 vi:Value
 aqP:List (ByteArray×Int)
 up:Int
 afl:Int
abbrev rJ.cells (n:rJ):Array Value:= #[.slice none 0 0,.int .i64 0,.int .i64 n.kind,.int .i64 n.mode,.int .i64 n.uid,.int .i64 n.gid,n.vd,.string n.target,n.vx,.bool n.opq,n.vi,.int .i64 n.up,.int .i64 n.afl]
section
variable {κ:Type} [dF κ] {α β:Type}
end
section
variable {P:Program} {T:UTy} {W:cV} {g w w':World} {l:List Atom}
variable {u mb:Nat} {q1 q2 nx:Int} {L:List (Int×rJ)}
end
end Go.Lm
namespace Go.Lm
open Go Go.RowKit

section
variable {P:Program} {ops:Array Oper} {rest:List Oper} {o:Oper} {n:Nat} {s:AL} {Q:Exit->Act->World->Prop} {w:World} {e:Bool} {Φ:World->Prop}
theorem Act.ext' {a b:Act} (h1:∀ t:Nat,a.tmps[t]?=b.tmps[t]?) (h2:a.defers=b.defers):a=b:=by
 cases a;cases b;simp only at h1 h2;subst h2;congr 1;exact Array.ext_getElem? h1
def slotsOf (ops:Array Oper) (o:Oper):List Nat:=(o.op.operands.toList.filterMap λx=>match x with| .tmp t=>some t| _=>none)++(match o.guard with| some (g,_)=>(match (ops[g]?).bind (·.dst) with| some d=>[d]| none=>[])| none=>[])
end
end Go.Lm
namespace Go.Lm
open Go Go.RowKit
section
variable {P:Program} {ops:Array Oper} {n:Nat} {s:AL} {Q Q'':Exit->Act->World->Prop} {w:World} {c:Code}
end
def nA:Value->Nat->Value
 | .pointer (some a),o=>.pointer (some (a.add o))
 | v,_=>v
def tC (g:World) (k:Nat) (v:Value) (i:Int) (cs:List Value):Prop:=∀ w,bA g w->∃ a:Addr,jU k v i= .pointer (some a)/\∀ (j:Nat) (c:Value),cs[j]?=some c->w.cell? (a.add j)=some c
section
variable {P:Program} {g w:World} {v:Value} {i:Int}
theorem ad9 {α:Type} [aO α] {xs:List α} (h:Is g v xs) (h0:0<=i) (h1:i< xs.length):∃ cs,tC g (aO.size α) v i cs/\aO.rel g cs (xs[i.toNat]'(by omega)):=by
 rcases dx.1 h with ⟨rfl,rfl⟩| ⟨a,cap,rfl,_,_,h3⟩;simp at h1;omega
 .obtain ⟨cs,hc,hr⟩:=h3 i.toNat _ (ak (by omega));exact ⟨cs,λw hw=>⟨a.add (i.toNat*aO.size α),rfl,λj c hj=>by rw [Go.Deep.add_add];exact hw _ _ (hc j c hj)⟩,hr⟩
theorem r9 {k off:Nat} {cs:List Value} {t:TypeId} {d:TypeDesc} {c:Value} (h:tC g k v i cs) (m:bA g w) (hu:P.underlying t=some d) (hd:d.isRow=false) (hc:cs[off]?=some c):
  (Instr.loadAt t (nA (jU k v i) off)).run P w= .ok c w:=by
 obtain ⟨a,ha,xf⟩:=h w m;have Jp:(isAgg t).run P w= .ok false w:=by
  unfold isAgg;rw [Sem.run_bind,run_underlying hu w];cases d<;>simp_all
 have h2:=xf off c hc;simp [ha,nA,Instr.loadAt,Instr.sureAddr,loadVar,Jp,run_load,h2]
theorem D7 {k off len:Nat} {cs:List Value} {t:TypeId} {d:TypeDesc} (h:tC g k v i cs) (m:bA g w) (hu:P.underlying t=some d) (hd:d.isRow=true) (hs:(P.info? t).map (·.size)=some len) (hl:off+len<=cs.length):
  (Instr.loadAt t (nA (jU k v i) off)).run P w= .ok (.agg ((cs.drop off).take len).toArray) w:=by
 obtain ⟨a,ha,hc⟩:=h w m;cases hq:P.info? t with
 | none=>simp [hq] at hs
 | some ie=>
  have On:((cs.drop off).take len).length=len:=by simp;omega
  have kE:ie.size=len:=by simpa [hq] using hs
  have Jp:(isAgg t).run P w= .ok true w:=by
   unfold isAgg;rw [Sem.run_bind,run_underlying hu w];cases d<;>simp_all
  have hl:=run_loadCells_list (P:=P) w (a.add off) ((cs.drop off).take len) (λj c hj=>by
   rw [Go.Deep.add_add];refine hc _ c ?_;rw [dO] at hj;split at hj;rw [List.getElem?_drop] at hj;exact hj
   .cases hj)
  rw [On] at hl;simp [ha,nA,Instr.loadAt,Instr.sureAddr,loadVar,Jp,sizeOf,typeInfo,hq,kE,hl]
def gk (l:List UInt8):ByteArray:=⟨l.toArray⟩
theorem BV {src dst e:TypeId} {l:List UInt8} (h:Is w v l) (hs:P.underlying src=some (.slice e)) (he:P.underlying e=some (.int .u8)) (hd:P.underlying dst=some .string):(convert src dst v).run P w= .ok (.string (gk l)) w:=by
 rcases dx.1 h with ⟨rfl,rfl⟩| ⟨a,cap,rfl,_,_,h3⟩;exact run_convert_bytes_nil w src e hs he 0 0 dst hd
 .exact run_convert_bytes_back w src dst e a cap l hs he hd λj hj=>by
   obtain ⟨cs,hc,hr⟩:=h3 j _ (ak hj);have hr':cs= [.int .u8 (l[j].toNat:Int)]:=hr;have:=hc 0 (.int .u8 (l[j].toNat:Int)) (by rw [hr'];rfl);simpa [aO.size] using this
end
end Go.Lm
namespace Go.Lm
open Go Go.RowKit
class zt (ρ:Type) [jZ ρ]:Prop where
 one:∀ {g:World} {cs:List Value} {x:ρ},jZ.rrel g cs x->∀ u∈cs,u.oneCell'=true
instance:zt PUnit:=⟨λh u hu=>by rw [show _=_ from h] at hu;cases hu⟩
instance {α ρ:Type} [aO α] [jZ ρ] [iW α] [zt ρ]:zt (α×ρ):=⟨λh u hu=>by
 obtain ⟨c1,c2,rfl,h1,h2⟩:=h;rcases aY.1 hu with hu| hu;exact iW.one h1 u hu
 .exact zt.one h2 u hu⟩
instance {ρ:Type} [jZ ρ] [zt ρ]:iW (St ρ):=⟨λh u hu=>zt.one h u hu⟩
theorem ahS {α:Type} [aO α] {g:World} {v:Value} {l:List α} (h:Is g v l):v.oneCell'=true:=by
 rcases dx.1 h with ⟨rfl,_⟩| ⟨a,c,rfl,_⟩<;>rfl
section
variable {P:Program} {W:cV} {g w:World} {l:List Atom}
theorem Yq {α:Type} [aO α] {e:TypeId} {v:Value} {xs:List α} {i:Int} (H:SL W g w (BN e v xs::l)) (h0:0<=i) (h1:i< xs.length):∃ cs,tC w (aO.size α) v i cs/\aO.rel g cs (xs[i.toNat]'(by omega)):=by
 obtain ⟨cs,r,H1⟩:=H.py;have rS:=H1.row;rcases rS.2 with ⟨rfl,h⟩| ⟨k,cap,cur,rfl,_⟩;omega
 .obtain ⟨c,hr,hc⟩:=r.get i.toNat _ (ak (by omega));refine ⟨c,λw2 m=>⟨(⟨k,0,none⟩:Addr).add (i.toNat*aO.size α),rfl,λj u hj=>?_⟩,hr⟩;rw [Go.Deep.add_add];exact m _ _ (rS.cells (g:=k) rfl _ u (hc j u hj))
theorem tb {size:Nat} {c:Value}:∀ (cs:List (List Value)) (i off:Nat),(∀ x∈cs,x.length=size)->off< size->∀ (hi:i< cs.length),(cs.set i ((cs[i]).set off c)).flatten=cs.flatten.set (i*size+off) c
 | [],i,off,_,_,hi=>by simp at hi
 | x::cs,0,off,h,ho,_=>by
  have hx:=h x (by simp);simp only [List.set_cons_zero,List.getElem_cons_zero,bF,Nat.zero_mul,cd];rw [List.set_append_left _ _ (by omega)]
 | x::cs,i+1,off,h,ho,hi=>by
  have hx:=h x (by simp);simp only [List.set_cons_succ,List.getElem_cons_succ,bF];rw [tb cs i off (λy hy=>h y (by simp [hy])) ho (by simpa using hi)];rw [List.set_append_right _ _ (by rw [hx,fj];omega)];congr 2;rw [hx,fj];omega
theorem eF.set {α:Type} [aO α] {x':α}:∀ {cs:List (List Value)} {xs:List α} (i:Nat) (c':List Value),eF g cs xs->aO.rel g c' x'->eF g (cs.set i c') (xs.set i x')
 | [],[],i,c',_,_=>by simp [eF]
 | c::cs,x::xs,0,c',h,hr=>⟨hr,h.2⟩
 | c::cs,x::xs,i+1,c',h,hr=>⟨h.1,eF.set i c' h.2 hr⟩
theorem eF.at {α:Type} [aO α]:∀ {cs:List (List Value)} {xs:List α} (i:Nat) (hi:i< xs.length) (hc:i< cs.length),eF g cs xs->aO.rel g cs[i] xs[i]
 | c::cs,x::xs,0,_,_,h=>h.1
 | c::cs,x::xs,i+1,hi,hc,h=>eF.at i (by simpa using hi) (by simpa using hc) h.2
theorem eF.lens {α:Type} [aO α]:∀ {cs:List (List Value)} {xs:List α},eF g cs xs->∀ c∈cs,c.length=aO.size α
 | [],[],_,c,hc=>by cases hc
 | c::cs,x::xs,h,y,hy=>by
  rcases aX.1 hy with rfl| hy;exact aO.len h.1;exact eF.lens h.2 y hy
theorem SL.akO {α:Type} [aO α] {e t:TypeId} {v c:Value} {xs:List α} {i:Int} {off:Nat} {x':α} (H:SL W g w (BN e v xs::l)) (h0:0<=i) (h1:i< xs.length) (PY:off< aO.size α) (uz:c.oneCell'=true) (Jn:c.cells= #[c]) (rR:(P.info? t).map (·.size)=some 1)
  (hx:∀ cs,aO.rel g cs (xs[i.toNat]'(by omega))->aO.rel g (cs.set off c) x'):
  ∃ w',(Instr.storeAt t (nA (jU (aO.size α) v i) off) c).run P w= .ok () w'/\SL W g w' (BN e v (xs.set i.toNat x')::l):=by
 obtain ⟨cs,r,H1⟩:=H.py;have hlen:=eF.length r;rcases H1.ofRow with ⟨rfl,hn,_,_⟩| ⟨k,cap,cur,rfl,q1,q2,q3,q4,H2⟩;omega;have hi:i.toNat< xs.length:=by omega
 have Zk:i.toNat< cs.length:=by omega
 have Zm:i.toNat*aO.size α+off< xs.length*aO.size α:=by
  have:(i.toNat+1)*aO.size α<=xs.length*aO.size α:=hZ _ hi;rw [fj] at this;omega
 have Jo:xs.length*aO.size α<=cap*aO.size α:=hZ _ q1;have gM:=kA (P:=P) (t:=t) (off:=i.toNat*aO.size α+off) (v:=c) (H2.pg 0) (by rw [Jn];exact rR) (by rw [Jn];simp [uz]) (by rw [Jn];simp;omega);refine ⟨w.setRow k (cur.toList.take (i.toNat*aO.size α+off)++c.cells.toList++cur.toList.drop (i.toNat*aO.size α+off+c.cells.size)).toArray,?_,?_⟩
 .have hp:nA (jU (aO.size α) (.slice (some ⟨k,0,none⟩) xs.length cap) i) off=ptr k (i.toNat*aO.size α+off):=by
   show Value.pointer (some (((⟨k,0,none⟩:Addr).add (i.toNat*aO.size α)).add off))=_;rw [Go.Deep.add_add,Addr.add_mid,cd]
  rw [hp];exact gM
 .have e1:(cur.toList.take (i.toNat*aO.size α+off)++c.cells.toList++cur.toList.drop (i.toNat*aO.size α+off+c.cells.size))=cur.toList.set (i.toNat*aO.size α+off) c:=by
   rw [Jn];rw [List.set_eq_take_append_cons_drop,if_pos (by simp;omega)];simp
  have u:Wr w k (cur.toList.set (i.toNat*aO.size α+off) c).toArray (w.setRow k (cur.toList.take (i.toNat*aO.size α+off)++c.cells.toList++cur.toList.drop (i.toNat*aO.size α+off+c.cells.size)).toArray):=⟨by rw [e1],(H2.pg 0).lt⟩;have H3:=H2.upd 0 u;have H4:=SL.wo (size:=aO.size α) (cap:=cap) xs.length H3 q1 q2 (by simp;omega);have e2:((cur.toList.set (i.toNat*aO.size α+off) c).toArray.toList.take (xs.length*aO.size α))=(cs.set i.toNat ((cs[i.toNat]).set off c)).flatten:=by
   rw [tb (size:=aO.size α) cs i.toNat off (λx hx=>eF.lens r x hx) PY Zk,<-q4];simp only [List.take_set]
  rw [e2] at H4;have hlx:(xs.set i.toNat x').length=xs.length:=by simp
  refine SL.XQ (cs:=cs.set i.toNat ((cs[i.toNat]).set off c)) (r.set i.toNat _ (hx _ (r.at i.toNat hi Zk))) ?_;rw [hlx];exact H4
end
end Go.Lm
namespace Go.Lm
open Go Go.RowKit
section
variable {P:Program} {W:cV} {g w:World} {l:List Atom}
theorem amj {ρ:Operand->Value} {o:Oper} {x y:Operand} {t u:TypeId} {a b:Int} {k:IntKind} (ho:o.op= .call {callee:=.builtin .min,args:= #[x,y],argTypes:= #[t,u]}) (hx:ρ x= .int k a) (hy:ρ y= .int k b):(execOp ρ o).run P w= .ok (.value (.int k (min a b))) w:=by
 simp [execOp,ho,resolve,invoke,builtin,hx,hy,Builtin.min_,Builtin.min2]
 try (split<;>omega)
theorem amk {ρ:Operand->Value} {o:Oper} {x y:Operand} {t u:TypeId} {a b:Int} {k:IntKind} (ho:o.op= .call {callee:=.builtin .max,args:= #[x,y],argTypes:= #[t,u]}) (hx:ρ x= .int k a) (hy:ρ y= .int k b):(execOp ρ o).run P w= .ok (.value (.int k (max a b))) w:=by
 simp [execOp,ho,resolve,invoke,builtin,hx,hy,Builtin.max_,Builtin.max2]
 try (split<;>omega)
def bV (xs:List UInt8):List Value:=xs.map λb=>.int .u8 b.toNat
theorem ahN:∀ {cs:List (List Value)} {xs:List UInt8},eF g cs xs->cs.flatten=bV xs
 | [],[],_=>rfl
 | c::cs,x::xs,h=>by
  have h1:c= [.int .u8 x.toNat]:=h.1;rw [bF,ahN h.2,h1];rfl
theorem R7:∀ xs:List UInt8,eF g (xs.map λb=>[Value.int .u8 b.toNat]) xs
 | []=>trivial
 | _::xs=>⟨rfl,R7 xs⟩
theorem ad4 (xs:List UInt8):(xs.map λb=>[Value.int .u8 b.toNat]).flatten=bV xs:=by
 induction xs with
 | nil=>rfl
 | cons x xs ih=>rw [cg,bF,ih];rfl
theorem SL.slB {e:TypeId} {v:Value} {xs:List UInt8} (H:SL W g w (ur e 1 v xs.length (bV xs)::l)):SL W g w (BN e v xs::l):=by
 refine SL.XQ (cs:=xs.map λb=>[Value.int .u8 b.toNat]) (R7 xs) ?_;rw [ad4];exact H
theorem SL.ahJ {e:TypeId} {v:Value} {xs:List UInt8} (H:SL W g w (BN e v xs::l)):SL W g w (ur e 1 v xs.length (bV xs)::l):=by
 obtain ⟨cs,r,H1⟩:=H.py;rw [ahN r] at H1;exact H1
def l5 (xs:List UInt8) (off:Nat) (ys:List UInt8):List UInt8:=xs.take off++ys.take (xs.length - off)++xs.drop (off+min ys.length (xs.length - off))
theorem Jz (xs:List UInt8) (off:Nat) (ys:List UInt8) (h:off<=xs.length):(l5 xs off ys).length=xs.length:=by
 unfold l5;simp;omega
theorem OK (v:Value) (n:Nat) (k cap:Nat) (h:v= .slice (some ⟨k,0,none⟩) n cap):jx 1 v 0 n=v:=by
 subst h;unfold jx;simp only [Int.toNat_zero,Nat.zero_mul,Nat.sub_zero,bm];split;rfl;simp [Addr.add]
theorem SL.al0 {e dT sT ty:TypeId} {k cap:Nat} {xs ys:List UInt8} {y:Value} {off:Int} (H:SL W g w (BN e (.slice (some ⟨k,0,none⟩) xs.length cap) xs::l)) (hy:Rd g w y ys) (h0:0<=off) (h1:off<=xs.length) (ht:P.underlying dT=some (.slice e)) (hs:(P.info? e).map (·.size)=some 1):
  ∃ w',(Builtin.copy_ #[dT,sT] ty #[jx 1 (.slice (some ⟨k,0,none⟩) xs.length cap) off xs.length,y]).run P w= .ok (.int .i64 (min ys.length (xs.length - off.toNat):Nat)) w'/\SL W g w' (BN e (.slice (some ⟨k,0,none⟩) xs.length cap) (l5 xs off.toNat ys)::l):=by
 have H1:=H.ahJ;rcases H1.ofRow with ⟨h,_⟩| ⟨k',ZN,cur,hv,q1,q2,q3,q4,H2⟩;cases h;cases hv;rw [Nat.mul_one] at q4 q3;have hlc:cur.toList.length=cap:=by simpa using q3
 have hbx:(bV xs).length=xs.length:=by simp [bV]
 -- the destination
 have aoo:∃ o,jx 1 (.slice (some ⟨k,0,none⟩) xs.length cap) off xs.length= .slice (some ⟨k,o,none⟩) (xs.length - off.toNat) (cap - off.toNat)/\(o=off.toNat\/(o=0/\xs.length - off.toNat=0)):=by
  unfold jx;simp only [lu,bm,Nat.mul_one];by_cases hc:cap=off.toNat
  .exact ⟨0,by rw [if_pos hc],.inr ⟨rfl,by omega⟩⟩
  .refine ⟨off.toNat,by rw [if_neg hc,Addr.add_mid,cd],.inl rfl⟩
 obtain ⟨o,hd,ho⟩:=aoo;rw [hd];rcases hy with ⟨rfl,rfl⟩| ⟨a,c,rfl,_,_,ds,VC,pf⟩
 .have hr:=run_copy_nil (P:=P) w dT sT ty e ⟨k,o,none⟩ (xs.length - off.toNat) (cap - off.toNat) ht (by cases hq:P.info? e<;>simp_all);refine ⟨w,by rw [hr];simp [goInt],?_⟩;have:l5 xs off.toNat []=xs:=by unfold l5;simp
  rw [this];exact H
 .have hfl:=ahN VC;obtain ⟨m,hm⟩:∃ m,m=min ys.length (xs.length - off.toNat):=⟨_,rfl⟩;have hmN:Nat.min ys.length (xs.length - off.toNat)=m:=hm.symm;have hy1:((bV ys).take (xs.length - off.toNat)).length=m:=by
   simp [bV];omega
  have hr:=run_copy_row (P:=P) w dT sT ty e k o (xs.length - off.toNat) (cap - off.toNat) a ys.length c cur e ((bV ys).take (xs.length - off.toNat)) ht hs (H2.pg 0) (by rw [hmN];exact hy1)
   (λj u hj=>by
    rw [dO] at hj;split at hj;exact pf j u (by rw [hfl];exact hj)
    .cases hj)
   (by rw [hy1,<-dw,hlc];rcases ho with h| h<;>omega)
   (λu hu=>by
    have hu':=List.mem_of_mem_take hu;unfold bV at hu';obtain ⟨b,_,rfl⟩:=aM.1 hu';rfl)
  rw [hy1] at hr;rw [<-hm];refine ⟨_,hr,?_⟩;have hu:Wr w k (cur.toList.take o++(bV ys).take (xs.length - off.toNat)++cur.toList.drop (o+m)).toArray (w.setRow k (cur.toList.take o++(bV ys).take (xs.length - off.toNat)++cur.toList.drop (o+m)).toArray):=⟨rfl,(H2.pg 0).lt⟩;have H3:=H2.upd 0 hu;have hlen:(l5 xs off.toNat ys).length=xs.length:=Jz _ _ _ (by omega);have H4:=SL.wo (size:=1) (cap:=cap) xs.length H3 q1 q2 (by
   simp only [List.size_toArray,af,aW,hlc,Nat.mul_one,hy1];rw [aD,hlc];rcases ho with h| h<;>omega)
  have e1:(cur.toList.take o++(bV ys).take (xs.length - off.toNat)++cur.toList.drop (o+m)).toArray.toList.take (xs.length*1)=bV (l5 xs off.toNat ys):=by
   show (cur.toList.take o++(bV ys).take (xs.length - off.toNat)++cur.toList.drop (o+m)).take (xs.length*1)=_;rw [Nat.mul_one];unfold l5;rw [<-hm];generalize hT:(bV ys).take (xs.length - off.toNat)=T at hy1;have hR:bV (xs.take off.toNat++ys.take (xs.length - off.toNat)++xs.drop (off.toNat+m))=(cur.toList.take xs.length).take off.toNat++T++(cur.toList.take xs.length).drop (off.toNat+m):=by
    rw [q4,<-hT];simp only [bV,eR,List.map_take,List.map_drop]
   rw [hR];have ho':cur.toList.take o++T++cur.toList.drop (o+m)=cur.toList.take off.toNat++T++cur.toList.drop (off.toNat+m):=by
    rcases ho with h| ⟨h,h2⟩;rw [h]
    .have hm0:m=0:=by omega
     have hT0:T= []:=aK (by omega);rw [hT0,h,hm0];simp
   rw [ho'];rw [List.take_append,List.take_append,fR,af,aD,hy1,hlc];have m1:min xs.length off.toNat=off.toNat:=by omega
   have m2:min off.toNat cap=off.toNat:=by omega
   rw [m1,m2];have m3:T.take (xs.length - off.toNat)=T:=aV (by omega);rw [m3];rw [fR,pJ];have m4:min off.toNat xs.length=off.toNat:=by omega
   rw [m4]
   first| done| (congr 2;done)| (congr 2;omega)
  rw [e1] at H4;refine SL.slB ?_;rw [hlen];exact H4
end

inductive Ty
 | int (k:IntKind)| u8| str| bool| unit| VF
 | pair (a b:Ty)
 | sl (e:Ty)
def IntKind.beq:IntKind->IntKind->Bool
 | .i8,.i8| .i16,.i16| .i32,.i32| .i64,.i64| .u8,.u8| .u16,.u16| .u32,.u32| .u64,.u64=>true
 | _,_=>false
theorem IntKind.eq_of_beq:∀ {a b:IntKind},IntKind.beq a b=true->a=b:=by
 intro a b;cases a<;>cases b<;>intro h<;>first| rfl| cases h
def Ty.beq:Ty->Ty->Bool
 | .int k,.int k'=>IntKind.beq k k'
 | .u8,.u8| .str,.str| .bool,.bool| .unit,.unit| .VF,.VF=>true
 | .pair a b,.pair c d=>a.beq c&& b.beq d
 | .sl a,.sl b=>a.beq b
 | _,_=>false
theorem Ty.eq_of_beq:∀ {a b:Ty},a.beq b=true->a=b
 | .int k,b,h=>by
  cases b<;>first| cases h| (rw [IntKind.eq_of_beq (a:=k) h])
 | .u8,b,h=>by cases b<;>first| rfl| cases h
 | .str,b,h=>by cases b<;>first| rfl| cases h
 | .bool,b,h=>by cases b<;>first| rfl| cases h
 | .unit,b,h=>by cases b<;>first| rfl| cases h
 | .VF,b,h=>by cases b<;>first| rfl| cases h
 | .pair a b,t,h=>by
  cases t<;>try cases h
  rename_i c d;have h':(a.beq c&& b.beq d)=true:=h;rw [ao] at h';rw [Ty.eq_of_beq h'.1,Ty.eq_of_beq h'.2]
 | .sl a,b,h=>by
  cases b<;>try cases h
  rename_i c;rw [Ty.eq_of_beq (a:=a) (b:=c) h]
@[reducible] def Ty.den:Ty->Type
 | .int _=>Int
 | .u8=>UInt8
 | .str=>ByteArray
 | .bool=>Bool
 | .unit=>Unit
 | .VF=>Nat
 | .pair a b=>a.den×b.den
 | .sl e=>List e.den
def Ty.Nu:(τ:Ty)->τ.den
 | .int _=>(0:Int)
 | .u8=>(0:UInt8)
 | .str=>(⟨#[]⟩:ByteArray)
 | .bool=>false
 | .unit=>()
 | .VF=>(0:Nat)
 | .pair a b=>(a.Nu,b.Nu)
 | .sl _=>[]
def Ty.size:Ty->Nat
 | .unit=>0
 | .pair a b=>a.size+b.size
 | _=>1
def Ty.row:Ty->Bool
 | .unit| .pair .. =>true
 | _=>false
@[reducible] def AP (α:Type) (r:aO α):aO (List α):=inferInstance
@[reducible] def Ty.rep:(τ:Ty)->aO τ.den
 | .int k=> {size:=1,agg:=false,rel:=λ_ cs n=>cs= [.int k n]/\(Lit.int k n).wf=true,mono:=λ_ h=>h,len:=λh=>by rw [h.1];rfl}
 | .u8=>(inferInstance:aO UInt8)
 | .str=>(inferInstance:aO ByteArray)
 | .bool=>(inferInstance:aO Bool)
 | .VF=> {size:=1,agg:=false,rel:=λ_ cs n=>cs= [.func (.func n) #[] #[]],mono:=λ_ h=>h,len:=λh=>by rw [h];rfl}
 | .unit=> {size:=0,agg:=true,rel:=λ_ cs _=>cs= [],mono:=λ_ h=>h,len:=λh=>by rw [h];rfl}
 | .pair a b=>
  {size:=a.rep.size+b.rep.size,agg:=true
   rel:=λw cs x=>∃ c1 c2,cs=c1++c2/\a.rep.rel w c1 x.1/\b.rep.rel w c2 x.2
   mono:=λhl h=>by
    obtain ⟨c1,c2,e,h1,h2⟩:=h;exact ⟨c1,c2,e,a.rep.mono hl h1,b.rep.mono hl h2⟩
   len:=λh=>by
    obtain ⟨c1,c2,e,h1,h2⟩:=h;rw [e,af,a.rep.len h1,b.rep.len h2]}
 | .sl e=>AP e.den e.rep
theorem Ty.gz:∀ τ:Ty,τ.rep.size=τ.size
 | .int _| .u8| .str| .bool| .unit| .VF| .sl _=>rfl
 | .pair a b=>by
  show a.rep.size+b.rep.size=a.size+b.size;rw [a.gz,b.gz]
def oa (e:Ty) (g:World) (v:Value) (x:List e.den):Prop:= @Is (List e.den) (AP e.den e.rep) g v x
theorem oa.mono {e:Ty} {g g':World} {v:Value} {x:List e.den} (m:bA g g') (h:oa e g v x):oa e g' v x:= @Is.mono _ (AP e.den e.rep) _ _ _ _ m h
def aB (e:Ty) (x:List e.den) (i:Int):e.den:=x.getD i.toNat e.Nu
theorem Ah {e:Ty} {g:World} {v:Value} {x:List e.den} {i:Int} (h:oa e g v x) (h0:0<=i) (h1:i< x.length):∃ cs,tC g e.size v i cs/\e.rep.rel g cs (aB e x i):=by
 letI:=e.rep;obtain ⟨cs,h2,h3⟩:=ad9 (α:=e.den) (xs:=x) (g:=g) (v:=v) (i:=i) h h0 h1;have hs:aO.size e.den=e.size:=Ty.gz e;rw [hs] at h2;refine ⟨cs,h2,?_⟩;have:aB e x i=x[i.toNat]'(by omega):=by
  unfold aB;rw [aP,ak (by omega)];rfl
 rw [this];exact h3
inductive Cl
 | k (v:Value)
 | d (e:Ty) (x:List e.den)
 | de (e:Ty) (x:List e.den) (i:Int) (off:Nat)
 | p (l:Nat) (off:Nat)
 | o (l:Nat)
 | os (l:Nat) (sz:Nat) (lo hi:Int)
 | oe (l:Nat) (sz:Nat) (i:Int) (off:Nat)
 | m (l:Nat)
 | sc (l off n:Nat)
 | fn (f:FuncId) (caps:List Cl)
 | DP (t:TypeId) (c:Cl)
 | kl (l:Nat) (v:Value)
 | JY
def aI:IntKind->Int->Prop
 | .i8,n=> -128<=n/\n<=127
 | .i16,n=> -32768<=n/\n<=32767
 | .i32,n=> -2147483648<=n/\n<=2147483647
 | .i64,n=> -9223372036854775808<=n/\n<=9223372036854775807
 | .u8,n=>0<=n/\n<=255
 | .u16,n=>0<=n/\n<=65535
 | .u32,n=>0<=n/\n<=4294967295
 | .u64,n=>0<=n/\n<=18446744073709551615
theorem oK {k:IntKind} {n:Int}:aI k n↔(Lit.int k n).wf=true:=by
 cases k<;>simp [aI,Lit.wf,IntKind.min,ku,eI,ij]
def okV:Value->Prop
 | .int k n=>aI k n
 | .string s=>s.size<=maxLen
 | v=>v.oneCell'=true
abbrev Env:=List Value
mutual
def cv (E:Env) (g:World):Cl->Value->Prop
 | .k v,u=>u=v/\okV v
 | .d e x,u=>oa e g u x
 | .de e x i off,u=>(0<=i/\i< x.length/\off<=e.size)/\∃ v,oa e g v x/\u=nA (jU e.size v i) off
 | .p l off,u=>∃ b,E[l]?=some (ptr b 0)/\u=ptr b off
 | .o l,u=>E[l]?=some u/\∃ a n c,u= .slice a n c
 | .os l sz lo hi,u=>∃ v,E[l]?=some v/\u=jx sz v lo hi/\∃ a n c,u= .slice a n c
 | .oe l sz i off,u=>∃ v,E[l]?=some v/\u=nA (jU sz v i) off/\∃ a,u= .pointer (some a)
 | .m l,u=>∃ b,E[l]?=some (ptr b 0)/\u= .map (some b)
 | .sc l off n,u=>∃ b c,E[l]?=some (ptr b 0)/\(n<=c/\c<=maxLen)/\u= .slice (some ⟨b,off,none⟩) n c
 | .fn f caps,u=>∃ us,bB E g caps us/\u= .func (.func f) #[] us.toArray
 | .DP t c,u=>∃ v,cv E g c v/\u= .iface t v
 | .kl l v,u=>(∃ x,E[l]?=some x)/\u=v/\v.oneCell'=true
 | .JY,u=>u.oneCell'=true
def bB (E:Env) (g:World):List Cl->List Value->Prop
 | [],us=>us= []
 | c::l,us=>∃ u r,us=u::r/\cv E g c u/\bB E g l r
end
section
variable {E E':Env} {g g':World}
def bz (E E':Env):Prop:=∀ (l:Nat) (v:Value),E[l]?=some v->E'[l]?=some v
theorem bz.refl (E:Env):bz E E:=λ_ _ h=>h
theorem bz.trans {A B C:Env} (h:bz A B) (k:bz B C):bz A C:=λl v e=>k l v (h l v e)
theorem bz.app (E L:Env):bz E (E++L):=λl v h=>by
 have hl:=(av.1 h).1;rw [aU hl];exact h
mutual
theorem cv.mono (he:bz E E') (m:bA g g'):∀ {c:Cl} {u:Value},cv E g c u->cv E' g' c u
 | .k _,_,h=>h
 | .d _ _,_,h=>oa.mono m h
 | .de _ _ _ _,_,⟨h,v,h1,h2⟩=>⟨h,v,h1.mono m,h2⟩
 | .p _ _,_,⟨b,h1,h2⟩=>⟨b,he _ _ h1,h2⟩
 | .o _,_,⟨h,h2⟩=>⟨he _ _ h,h2⟩
 | .os _ _ _ _,_,⟨v,h1,h2⟩=>⟨v,he _ _ h1,h2⟩
 | .oe _ _ _ _,_,⟨v,h1,h2⟩=>⟨v,he _ _ h1,h2⟩
 | .m _,_,⟨b,h1,h2⟩=>⟨b,he _ _ h1,h2⟩
 | .sc _ _ _,_,⟨b,c,h1,h2⟩=>⟨b,c,he _ _ h1,h2⟩
 | .fn _ _,_,⟨us,h1,h2⟩=>⟨us,h1.mono he m,h2⟩
 | .DP _ _,_,⟨v,h1,h2⟩=>⟨v,h1.mono he m,h2⟩
 | .kl _ _,_,⟨⟨x,h1⟩,h2⟩=>⟨⟨x,he _ _ h1⟩,h2⟩
 | .JY,_,h=>h
theorem bB.mono (he:bz E E') (m:bA g g'):∀ {l:List Cl} {us:List Value},bB E g l us->bB E' g' l us
 | [],_,h=>h
 | _::_,_,⟨u,r,e,h1,h2⟩=>⟨u,r,e,h1.mono he m,h2.mono he m⟩
end
theorem bB.nil:bB E g [] []:=rfl
theorem bB.cons {c:Cl} {u:Value} {l:List Cl} {us:List Value} (h:cv E g c u) (k:bB E g l us):bB E g (c::l) (u::us):=⟨u,us,rfl,h,k⟩
theorem bB.length:∀ {l:List Cl} {us:List Value},bB E g l us->us.length=l.length
 | [],_,h=>by rw [show _=_ from h];rfl
 | _::_,_,⟨_,_,e,_,h⟩=>by rw [e,aq,aq,h.length]
theorem bB.app:∀ {l k:List Cl} {us vs:List Value},bB E g l us->bB E g k vs->bB E g (l++k) (us++vs)
 | [],_,_,_,h,hk=>by rw [show _=_ from h];exact hk
 | _::_,_,_,_,⟨u,r,e,h1,h2⟩,hk=>by rw [e];exact ⟨u,r++_,rfl,h1,h2.app hk⟩
theorem bB.split:∀ {l k:List Cl} {us:List Value},bB E g (l++k) us->∃ u1 u2,us=u1++u2/\bB E g l u1/\bB E g k u2
 | [],_,us,h=>⟨[],us,rfl,rfl,h⟩
 | _::l,_,_,⟨u,r,e,h1,h2⟩=>by
  obtain ⟨u1,u2,e2,h3,h4⟩:=bB.split (l:=l) h2;exact ⟨u::u1,u2,by rw [e,e2];rfl,⟨u,u1,rfl,h1,h3⟩,h4⟩
theorem bB.get:∀ {l:List Cl} {us:List Value} {i:Nat} {c:Cl},bB E g l us->l[i]?=some c->∃ u,us[i]?=some u/\cv E g c u
 | [],_,_,_,_,h=>by simp at h
 | x::l,_,0,c,⟨u,r,e,h1,_⟩,h=>by
  have:x=c:=by simpa using h
  subst this;exact ⟨u,by rw [e];rfl,h1⟩
 | x::l,_,i+1,c,⟨u,r,e,_,h2⟩,h=>by
  obtain ⟨v,h3,h4⟩:=bB.get (i:=i) h2 (by simpa using h);exact ⟨v,by rw [e];simpa using h3,h4⟩
theorem bB.drop:∀ {l:List Cl} {us:List Value} (n:Nat),bB E g l us->bB E g (l.drop n) (us.drop n)
 | _,_,0,h=>h
 | [],us,n+1,h=>by rw [show us= [] from h];exact bB.nil
 | _::l,_,n+1,⟨u,r,e,_,h2⟩=>by rw [e];exact h2.drop n
theorem bB.take:∀ {l:List Cl} {us:List Value} (n:Nat),bB E g l us->bB E g (l.take n) (us.take n)
 | _,_,0,h=>rfl
 | [],us,n+1,h=>by rw [show us= [] from h];exact bB.nil
 | _::l,_,n+1,⟨u,r,e,h1,h2⟩=>by rw [e];exact ⟨u,r.take n,rfl,h1,h2.take n⟩
theorem bB.set:∀ {l:List Cl} {us:List Value} (i:Nat) {c:Cl} {u:Value},bB E g l us->cv E g c u->bB E g (l.set i c) (us.set i u)
 | [],us,_,_,_,h,_=>by rw [show us= [] from h];exact bB.nil
 | _::l,_,0,c,u,⟨x,r,e,_,h2⟩,hc=>by rw [e];exact ⟨u,r,rfl,hc,h2⟩
 | _::l,_,i+1,c,u,⟨x,r,e,h1,h2⟩,hc=>by rw [e];exact ⟨x,r.set i u,rfl,h1,h2.set i hc⟩
end

def Ty.cells:(τ:Ty)->τ.den->List Cl
 | .int k,n=>[.k (.int k n)]
 | .u8,b=>[.k (.int .u8 (b.toNat:Int))]
 | .str,s=>[.k (.string s)]
 | .bool,b=>[.k (.bool b)]
 | .unit,_=>[]
 | .VF,f=>[.fn f []]
 | .pair a b,x=>a.cells x.1++b.cells x.2
 | .sl e,x=>[.d e x]
def Ty.ok:(τ:Ty)->τ.den->Prop
 | .int k,n=>aI k n
 | .str,s=>s.size<=9223372036854775807
 | .pair a b,x=>a.ok x.1/\b.ok x.2
 | .sl _,x=>x.length<=9223372036854775807
 | _,_=>True
theorem lP {e:Ty} {g:World} {v:Value} {x:List e.den} (h:oa e g v x):x.length<=9223372036854775807:=by
 have:= @Is.YS e.den e.rep g v x h;omega
theorem eW (E:Env) (g:World):∀ (τ:Ty) {x:τ.den} {us:List Value},τ.rep.rel g us x->bB E g (τ.cells x) us/\τ.ok x
 | .int k,x,us,h=>⟨⟨_,[],h.1,⟨rfl,oK.2 h.2⟩,rfl⟩,oK.2 h.2⟩
 | .u8,x,us,h=>⟨⟨_,[],h,⟨rfl,by
   have h1:x.toNat< 256:=UInt8.toNat_lt x;show (0:Int)<=(x.toNat:Int)/\(x.toNat:Int)<=255;omega⟩,rfl⟩,trivial⟩
 | .str,x,us,h=>⟨⟨_,[],h.1,⟨rfl,h.2⟩,rfl⟩,h.2⟩
 | .bool,x,us,h=>⟨⟨_,[],h,⟨rfl,rfl⟩,rfl⟩,trivial⟩
 | .unit,x,us,h=>⟨h,trivial⟩
 | .VF,x,us,h=>⟨⟨_,[],h,⟨[],rfl,rfl⟩,rfl⟩,trivial⟩
 | .pair a b,x,us,⟨c1,c2,e,h1,h2⟩=>by
  obtain ⟨p1,p2⟩:=eW E g a h1;obtain ⟨q1,q2⟩:=eW E g b h2;rw [e];exact ⟨p1.app q1,p2,q2⟩
 | .sl e,x,us,⟨v,h1,h2⟩=>by
  have hv:oa e g v x:=(@dx e.den e.rep g v x).2 h2;exact ⟨⟨v,[],h1,hv,rfl⟩,lP hv⟩
def ofInt (k:IntKind):List Cl->Option (Int×List Cl)
 | .k (.int k' n)::r=>if k'=k then some (n,r) else none
 | _=>none
def ahU:List Cl->Option (UInt8×List Cl)
 | .k (.int .u8 n)::r=>some (ax n.toNat,r)
 | _=>none
def ofStr:List Cl->Option (ByteArray×List Cl)
 | .k (.string s)::r=>some (s,r)
 | _=>none
def ofBool:List Cl->Option (Bool×List Cl)
 | .k (.bool b)::r=>some (b,r)
 | _=>none
def afO {e e':Ty} (h:e'=e) (x:List e'.den):List e.den:=h▸x
def zk {e':Ty} (e:Ty) (x:List e'.den):Option (List e.den):=if h:e'.beq e=true then some (afO (Ty.eq_of_beq h) x) else none
theorem eA {e e':Ty} {x:List e'.den} {y:List e.den} (h:zk e x=some y):∃ q:e'=e,y=afO q x:=by
 unfold zk at h;split at h;exact ⟨_,(aj h).symm⟩;cases h
def ahV (e:Ty):List Cl->Option (List e.den×List Cl)
 | .k (.slice none 0 0)::r=>some ([],r)
 | .d _ x::r=>match zk e x with
  | some y=>some (y,r)
  | none=>none
 | _=>none
def ofFn:List Cl->Option (Nat×List Cl)
 | .fn f []::r=>some (f,r)
 | _=>none
def Ty.of:(τ:Ty)->List Cl->Option (τ.den×List Cl)
 | .int k,l=>ofInt k l
 | .u8,l=>ahU l
 | .str,l=>ofStr l
 | .bool,l=>ofBool l
 | .unit,l=>some ((),l)
 | .VF,l=>ofFn l
 | .pair a b,l=>match a.of l with
  | some (x,r)=>match b.of r with
   | some (y,r')=>some ((x,y),r')
   | none=>none
  | none=>none
 | .sl e,l=>ahV e l
theorem of_cells {E:Env} {g:World}:∀ (τ:Ty) {l r:List Cl} {x:τ.den} {us:List Value},τ.of l=some (x,r)->bB E g l us->∃ u1 u2,us=u1++u2/\τ.rep.rel g u1 x/\bB E g r u2
 | .int k,l,r,x,us,h,hr=>by
  change ofInt k l=_ at h;unfold ofInt at h;split at h
  .split at h
   .rename_i hk;subst hk;cases h;obtain ⟨u,r1,e,⟨h1,h2⟩,h3⟩:=hr;subst h1;exact ⟨[_],r1,e,⟨rfl,oK.1 h2⟩,h3⟩
   .cases h
  .cases h
 | .u8,l,r,x,us,h,hr=>by
  change ahU l=_ at h;unfold ahU at h;split at h
  .cases h;obtain ⟨u,r1,e,⟨h1,h2⟩,h3⟩:=hr;subst h1;refine ⟨[_],r1,e,?_,h3⟩;rename_i n;have h2':0<=n/\n<=255:=h2;show [Value.int .u8 n]= [Value.int .u8 ((ax n.toNat).toNat:Int)];have:((ax n.toNat).toNat:Int)=n:=by
    simp [UInt8.toNat_ofNat'];omega
   rw [this]
  .cases h
 | .str,l,r,x,us,h,hr=>by
  change ofStr l=_ at h;unfold ofStr at h;split at h
  .cases h;obtain ⟨u,r1,e,⟨h1,h2⟩,h3⟩:=hr;subst h1;exact ⟨[_],r1,e,⟨rfl,h2⟩,h3⟩
  .cases h
 | .bool,l,r,x,us,h,hr=>by
  change ofBool l=_ at h;unfold ofBool at h;split at h
  .cases h;obtain ⟨u,r1,e,⟨h1,h2⟩,h3⟩:=hr;subst h1;exact ⟨[_],r1,e,rfl,h3⟩
  .cases h
 | .VF,l,r,x,us,h,hr=>by
  change ofFn l=_ at h;unfold ofFn at h;split at h
  .cases h;obtain ⟨u,r1,e,⟨tF,h1,h2⟩,h3⟩:=hr;obtain rfl:tF= []:=h1;subst h2;exact ⟨[_],r1,e,rfl,h3⟩
  .cases h
 | .unit,l,r,x,us,h,hr=>by
  cases h;exact ⟨[],us,rfl,rfl,hr⟩
 | .pair a b,l,r,x,us,h,hr=>by
  unfold Ty.of at h;cases ha:a.of l with
  | none=>simp [ha] at h
  | some p=>
   obtain ⟨x1,r1⟩:=p;cases hb:b.of r1 with
   | none=>simp [ha,hb] at h
   | some q=>
    obtain ⟨x2,r2⟩:=q;simp [ha,hb] at h;obtain ⟨rfl,rfl⟩:=h;obtain ⟨u1,u2,e1,h1,h2⟩:=of_cells a ha hr;obtain ⟨u3,u4,e2,h3,h4⟩:=of_cells b hb h2;exact ⟨u1++u3,u4,by rw [e1,e2,aH],⟨u1,u3,rfl,h1,h3⟩,h4⟩
 | .sl e,l,r,x,us,h,hr=>by
  change ahV e l=_ at h;unfold ahV at h;split at h
  .cases h;obtain ⟨u,r1,eq,⟨h1,h2⟩,h3⟩:=hr;subst h1;exact ⟨[_],r1,eq,⟨_,rfl,.inl ⟨rfl,rfl⟩⟩,h3⟩
  .split at h
   .rename_i he;obtain ⟨q,hy⟩:=eA he;subst q;cases h;subst hy;obtain ⟨u,r1,eq,h1,h3⟩:=hr;exact ⟨[u],r1,eq,⟨u,rfl,(@dx _ (Ty.rep _) g u _).1 h1⟩,h3⟩
   .cases h
  .cases h
open Go Go.RowKit Go.WideMaps
abbrev K3:=UInt8×UInt8×UInt8
def K3.v (k:K3):Value:=.agg #[.int .u8 (k.1.toNat:Int),.int .u8 (k.2.1.toNat:Int),.int .u8 (k.2.2.toNat:Int)]
instance:dF K3 where
 dec:=inferInstance
 lit k:=.string [k.1,k.2.1,k.2.2]
 val:=K3.v
 ok _:=True
 same a b:=by
  simp only [Lit.sameKey];rw [iE];simp only [beq_iff_eq,decide_eq_true_eq];constructor
  .intro h;obtain ⟨a1,a2,a3⟩:=a;obtain ⟨b1,b2,b3⟩:=b;simp at h;obtain ⟨h1,h2,h3⟩:=h;rw [h1,h2,h3]
  .intro h;rw [h]
 inj a b h:=by
  obtain ⟨a1,a2,a3⟩:=a;obtain ⟨b1,b2,b3⟩:=b;simp at h;obtain ⟨h1,h2,h3⟩:=h;rw [h1,h2,h3]
def w9 (P:Program) (k:TypeId):Bool:=match P.underlying k with
 | some (.array n e)=>Nat.beq n 3&& (match P.underlying e with
  | some (.int .u8)=>Nat.beq (P.cellsOf e) 1&& (Nat.beq (P.cellsOf k) 3&& gx 0 P.types.size)
  | _=>false)
 | _=>false
theorem DA:∀ {a b:List UInt8},a≠b->bytesBefore a b=true\/bytesBefore b a=true
 | [],[],h=>absurd rfl h
 | [],_::_,_=>.inl rfl
 | _::_,[],_=>.inr rfl
 | x::a,y::b,h=>by
  unfold bytesBefore;by_cases e:x=y
  .subst e;have h2:a≠b:=λq=>h (by rw [q]);rcases DA h2 with h3| h3
   .left;simp [h3]
   .right;simp [h3]
  .have:x< y\/y< x:=by
    rcases ko x.toNat y.toNat with h3| h3| h3;exact .inl (UInt8.lt_iff_toNat_lt.2 h3);exact absurd (UInt8.toNat_inj.1 h3) e;exact .inr (UInt8.lt_iff_toNat_lt.2 h3)
   rcases this with h3| h3
   .left;simp [h3]
   .right;simp [h3]
theorem PL {P:Program} {e:TypeId} (he:P.underlying e=some (.int .u8)) (d:Nat) (b:UInt8):P.keyLits (d+1) e [.int .u8 (b.toNat:Int)]=some [.int .u8 (b.toNat:Int)]:=by
 have hb:b.toNat< 256:=UInt8.toNat_lt b;unfold Program.keyLits;rw [he];have:(Lit.int .u8 (b.toNat:Int)).wf=true:=by
  simp [Lit.wf,IntKind.min,ku,eI,ij];omega
 simp [this]
theorem ajh (b:UInt8):Lit.keyBytes (.int .u8 (b.toNat:Int))= [b]:=by
 have hb:b.toNat< 256:=UInt8.toNat_lt b;show bytesBE (8 / 8) _=_;have:((b.toNat:Int) % 2 ^ 8).toNat=b.toNat:=by omega
 show bytesBE 1 (((b.toNat:Int) % 2 ^ 8).toNat)=_;rw [this];simp [bytesBE,bytesLE]
theorem Je {P:Program} {k:TypeId} (h:w9 P k=true):∃ e,ArrKey P k e 3/\P.underlying e=some (.int .u8)/\∃ m,P.types.size=m+1:=by
 unfold w9 at h;split at h
 .rename_i n e hu;simp only [ao] at h;obtain ⟨h1,h⟩:=h;obtain rfl:=ai h1;split at h
  .rename_i he;simp only [ao] at h;obtain ⟨h2,h3,h4⟩:=h;refine ⟨e,⟨hu,?_,ai h2,ai h3⟩,he,P.types.size - 1,?_⟩
   .unfold Program.plainKey;rw [he]
   .have:0< P.types.size:=by simpa using h4
    omega
  .cases h
 .cases h
theorem MT {P:Program} {k:TypeId} (h:w9 P k=true) (x:K3):keyOf P k (dF.val x)=some (dF.lit x):=by
 obtain ⟨e,A,he,m,hm⟩:=Je h;unfold keyOf;rw [A.hu];have hk:P.keyType k=true:=A.keyType ⟨m,hm⟩;have hf:Value.formed P k (dF.val x)=true:=by
  show Value.formed P k (K3.v x)=true;unfold K3.v Value.formed;simp only;rw [A.hu];simp [A.size]
 rw [hk,hf];have hl:P.keyLits (P.types.size+1) k (dF.val x).cells.toList=some [.int .u8 (x.1.toNat:Int),.int .u8 (x.2.1.toNat:Int),.int .u8 (x.2.2.toNat:Int)]:=by
  show P.keyLits (P.types.size+1) k [.int .u8 (x.1.toNat:Int),.int .u8 (x.2.1.toNat:Int),.int .u8 (x.2.2.toNat:Int)]=_;rw [hm]
  conv=>lhs;unfold Program.keyLits
  rw [A.hu];simp only [A.size,A.one,aq,aL];have r3:bP 3= [0,1,2]:=rfl;simp [r3,PL he]
 simp only [Bool.and_self,if_true];rw [hl];show some (Lit.string (keyBytes _))=some (Lit.string _);unfold keyBytes;simp only [kq,List.flatMap_nil,ajh];rfl
theorem Jc {P:Program} {k:TypeId} (h:w9 P k=true):xH P k K3:=by
 obtain ⟨e,A,he,m,hm⟩:=Je h;have L:=A.law;exact {
  keyed:= {
   key:=λhv=>by obtain ⟨s,rfl⟩:=L.str hv;trivial
   total:=λh1 h2 gD=>by
    obtain ⟨s1,rfl⟩:=L.str h1;obtain ⟨s2,rfl⟩:=L.str h2;exact DA λq=>gD (by rw [q])
   inj:=L.inj
   check:=L.check
   find:=L.find
   stays:=L.stays}
  of:=λx _=>MT h x
  inv:=λv x hv=>⟨L.inj hv (MT h x),trivial⟩}
theorem wV {κ:Type} [dF κ] {P P':Program} {t:TypeId} (hk:∀ v,keyOf P t v=keyOf P' t v) {bb:Nat} {m:List (κ×Value)} {g:World} {hh:Hp}:(mapA P t bb m).sat g hh->(mapA P' t bb m).sat g hh:=by
 rintro ⟨es,clock,h1,⟨⟨f1,f2,f3⟩,h3⟩⟩;have M0:∀ x,WideElems.rd P t eL x=WideElems.rd P' t eL x:=λx=>by unfold WideElems.rd;rw [hk]
 refine ⟨es,clock,h1,⟨⟨f1,f2,λx hx=>by rw [<-M0];exact f3 x hx⟩,?_⟩⟩;have xc:WideElems.rg P' t eL=WideElems.rg P t eL:=funext λx=>by unfold WideElems.rg;rw [M0]
 rw [xc];exact h3
theorem keyLits_int {P:Program} {e:TypeId} {q:IntKind} (he:P.underlying e=some (.int q)) (d:Nat) (c:List Value):P.keyLits (d+1) e c=(match c with
  | [.int q' n]=>if q'=q/\(Lit.int q n).wf=true then some [.int q n] else none
  | _=>none):=by
 unfold Program.keyLits;rw [he];rcases c with _| ⟨x,_| ⟨y,r⟩⟩;rfl;cases x<;>rfl;cases x<;>rfl
theorem zY {P P':Program} {k:TypeId} (h:w9 P k=true) (h':w9 P' k=true) (v:Value):keyOf P k v=keyOf P' k v:=by
 obtain ⟨e,A,he,m,hm⟩:=Je h;obtain ⟨e',A',he',m',hm'⟩:=Je h';unfold keyOf;rw [A.hu,A'.hu];have hk:P.keyType k=true:=A.keyType ⟨m,hm⟩;have vY:P'.keyType k=true:=A'.keyType ⟨m',hm'⟩;have hf:Value.formed P k v=Value.formed P' k v:=by
  unfold Value.formed;rw [A.hu,A'.hu,A.size,A'.size]
 have hl:P.keyLits (P.types.size+1) k v.cells.toList=P'.keyLits (P'.types.size+1) k v.cells.toList:=by
  rw [hm,hm']
  conv=>lhs;unfold Program.keyLits
  conv=>rhs;unfold Program.keyLits
  rw [A.hu,A'.hu];simp only [A.size,A.one,A'.size,A'.one];have:∀ c,P.keyLits (m+1) e c=P'.keyLits (m'+1) e' c:=λc=>by rw [keyLits_int he,keyLits_int he']
  simp only [this]
 simp only [hk,vY,hf,hl]
end Go.Lm

namespace Go.Lm
open Go Go.RowKit

inductive S1
 | c (x:Cl)
 | agg (l:List Cl)
inductive SV
 | v (x:S1)
 | cZ (l:List S1)
 | any
 | arr (k:IntKind) (l:List Int)
abbrev SV.c (x:Cl):SV:=.v (.c x)
abbrev SV.k (v:Value):SV:=.v (.c (.k v))
abbrev SV.int (n:Int):SV:=.v (.c (.k (.int .i64 n)))
abbrev SV.bool (b:Bool):SV:=.v (.c (.k (.bool b)))
abbrev SV.str (s:ByteArray):SV:=.v (.c (.k (.string s)))
abbrev SV.tH:SV:=.cZ []
def gw (E:Env) (g:World):S1->Value->Prop
 | .c x,u=>cv E g x u
 | .agg l,u=>∃ us,bB E g l us/\u= .agg us.toArray
def ic (E:Env) (g:World):List S1->List Value->Prop
 | [],us=>us= []
 | c::l,us=>∃ u r,us=u::r/\gw E g c u/\ic E g l r
def dq (E:Env) (g:World):SV->Value->Prop
 | .v x,u=>gw E g x u
 | .cZ l,u=>∃ us,ic E g l us/\u= .tuple us.toArray
 | .any,_=>True
 | .arr k l,u=>u= .agg (l.map λn=>Value.int k n).toArray/\∀ n∈l,aI k n
section
variable {E E':Env} {g g':World}
theorem gw.mono (he:bz E E') (m:bA g g'):∀ {x:S1} {u:Value},gw E g x u->gw E' g' x u
 | .c _,_,h=>cv.mono he m h
 | .agg _,_,⟨us,h1,h2⟩=>⟨us,h1.mono he m,h2⟩
theorem ic.mono (he:bz E E') (m:bA g g'):∀ {l:List S1} {us:List Value},ic E g l us->ic E' g' l us
 | [],_,h=>h
 | _::_,_,⟨u,r,e,h1,h2⟩=>⟨u,r,e,h1.mono he m,h2.mono he m⟩
theorem dq.mono (he:bz E E') (m:bA g g'):∀ {x:SV} {u:Value},dq E g x u->dq E' g' x u
 | .v _,_,h=>gw.mono he m h
 | .cZ _,_,⟨us,h1,h2⟩=>⟨us,h1.mono he m,h2⟩
 | .any,_,_=>trivial
 | .arr _ _,_,h=>h
theorem ic.get:∀ {l:List S1} {us:List Value} {i:Nat} {c:S1},ic E g l us->l[i]?=some c->∃ u,us[i]?=some u/\gw E g c u
 | [],_,_,_,_,h=>by simp at h
 | x::l,_,0,c,⟨u,r,e,h1,_⟩,h=>by
  have:x=c:=by simpa using h
  subst this;exact ⟨u,by rw [e];rfl,h1⟩
 | x::l,_,i+1,c,⟨u,r,e,_,h2⟩,h=>by
  obtain ⟨v,h3,h4⟩:=ic.get (i:=i) h2 (by simpa using h);exact ⟨v,by rw [e];simpa using h3,h4⟩
theorem ic.length:∀ {l:List S1} {us:List Value},ic E g l us->us.length=l.length
 | [],_,h=>by rw [show _=_ from h];rfl
 | _::_,_,⟨_,_,e,_,h⟩=>by rw [e,aq,aq,h.length]
theorem jk:dq E g .tH undef:=⟨[],rfl,rfl⟩
def S1.cells:S1->List Cl
 | .c x=>[x]
 | .agg l=>l
theorem cv.one:∀ {c:Cl} {u:Value},cv E g c u->u.oneCell'=true
 | .k v,_,⟨h,hk⟩=>by
  rw [h];cases v<;>first| rfl| exact hk
 | .d e x,u,h=> @ahS e.den e.rep _ _ _ h
 | .de e x i off,u,⟨h0,v,h1,h2⟩=>by
  obtain ⟨cs,h3,_⟩:=Ah h1 h0.1 h0.2.1;obtain ⟨a,ha,_⟩:=h3 g (bA.refl g);rw [h2,ha];rfl
 | .p l off,_,⟨b,_,h⟩=>by rw [h];rfl
 | .m l,_,⟨b,_,h⟩=>by rw [h];rfl
 | .sc l off n,_,⟨b,c,_,_,h⟩=>by rw [h];rfl
 | .fn f caps,_,⟨us,_,h⟩=>by rw [h];rfl
 | .DP t c,_,⟨v,_,h⟩=>by rw [h];rfl
 | .JY,_,h=>h
 | .kl _ _,_,⟨_,h,h2⟩=>by rw [h];exact h2
 | .o l,_,⟨_,a,n,c,h⟩=>by rw [h];rfl
 | .os l sz lo hi,_,⟨_,_,_,a,n,c,h⟩=>by rw [h];rfl
 | .oe l sz i off,_,⟨_,_,_,a,h⟩=>by rw [h];rfl
theorem bB.one:∀ {l:List Cl} {us:List Value},bB E g l us->∀ u∈us,u.oneCell'=true
 | [],us,h,u,hu=>by rw [show us= [] from h] at hu;cases hu
 | _::_,_,⟨x,r,e,h1,h2⟩,u,hu=>by
  rw [e] at hu;rcases aX.1 hu with hu| hu;rw [hu];exact h1.one;exact h2.one u hu
theorem nS {u:Value} (h:u.oneCell'=true):u.cells= #[u]:=by cases u<;>first| rfl| cases h
theorem gw.cells:∀ {x:S1} {u:Value},gw E g x u->bB E g x.cells u.cells.toList
 | .c x,u,h=>by
  have h':cv E g x u:=h;rw [nS h'.one];exact ⟨u,[],rfl,h',rfl⟩
 | .agg l,u,⟨us,h1,h2⟩=>by rw [h2];exact h1
inductive Kk
 | int| str
@[reducible] def Kk.den:Kk->Type
 | .int=>Int
 | .str=>ByteArray
@[reducible] def Kk.key:(k:Kk)->dF k.den
 | .int=>(inferInstance:dF Int)
 | .str=>(inferInstance:dF ByteArray)
def Kk.get {α:Type} (k:Kk) (l:List (k.den×α)) (x:k.den):Option α:= @iS k.den k.key α l x
def Kk.put {α:Type} (k:Kk) (l:List (k.den×α)) (x:k.den) (v:α):List (k.den×α):= @qP k.den k.key α l x v
def Kk.del {α:Type} (k:Kk) (l:List (k.den×α)) (x:k.den):List (k.den×α):= @mJ k.den k.key α l x
def j7 (P:Program) (t:TypeId) (k:Kk):Bool:=match P.underlying t,k with
 | some (.int .i64),.int=>true
 | some .string,.str=>true
 | _,_=>false
def Kk.beq:Kk->Kk->Bool
 | .int,.int| .str,.str=>true
 | _,_=>false
theorem Kk.eq_of_beq:∀ {a b:Kk},a.beq b=true->a=b:=by
 intro a b;cases a<;>cases b<;>intro h<;>first| rfl| cases h
def afN {k' k:Kk} {e' e:Ty} (h:k'=k) (q:e'=e) (x:List (k'.den×e'.den)):List (k.den×e.den):=h▸q▸x
def asM {k':Kk} {e':Ty} (k:Kk) (e:Ty) (x:List (k'.den×e'.den)):Option (List (k.den×e.den)):=
 if h:k'.beq k=true then (if q:e'.beq e=true then some (afN (Kk.eq_of_beq h) (Ty.eq_of_beq q) x) else none) else none
theorem aaF {k' k:Kk} {e' e:Ty} {x:List (k'.den×e'.den)} {y:List (k.den×e.den)} (h:asM k e x=some y):∃ (p:k'=k) (q:e'=e),y=afN p q x:=by
 unfold asM at h;split at h
 .split at h
  exact ⟨_,_,(aj h).symm⟩;cases h
 .cases h
def IsV (g:World) (e:Ty) (u:Value) (x:e.den):Prop:=∃ cs,e.rep.rel g cs x/\if e.row then u= .agg cs.toArray else cs= [u]
def rH (g:World) (k:Kk) (e:Ty):List (k.den×Value)->List (k.den×e.den)->Prop
 | [],xs=>xs= []
 | p::m,xs=>∃ x r,xs=(p.1,x)::r/\IsV g e p.2 x/\rH g k e m r
theorem IsV.mono (m:bA g g') {e:Ty} {u:Value} {x:e.den}:IsV g e u x->IsV g' e u x:=λ⟨cs,h1,h2⟩=>⟨cs,e.rep.mono m h1,h2⟩
theorem rH.mono (m:bA g g') {k:Kk} {e:Ty}:∀ {l:List (k.den×Value)} {xs:List (k.den×e.den)},rH g k e l xs->rH g' k e l xs
 | [],_,h=>h
 | _::_,_,⟨x,r,q,h1,h2⟩=>⟨x,r,q,h1.mono m,h2.mono m⟩
abbrev dJ:Ty:=.pair .str (.pair (.sl .u8) .unit)
abbrev noTy:Ty:=.pair (.sl .str) (.pair (.int .i64) (.pair (.int .i64) (.pair (.pair (.int .i64) (.pair (.int .i64) (.pair (.int .i64) .unit))) (.pair (.sl .u8) (.pair .str (.pair (.sl dJ) (.pair .bool .unit)))))))
abbrev bx:=List ByteArray×Int×Int×(Int×Int×Int×Unit)×List UInt8×ByteArray×List (ByteArray×List UInt8×Unit)×Bool×Unit
abbrev Ub:=Int×ByteArray×Int×Unit
structure UpY where
 q1:Int
 q2:Int
 L:List bx
 E:List Ub
 nx:Int
def rQ (r:Int) (n:bx):Bool:=n.2.1==r
def isE (d:Int) (s:ByteArray) (e:Ub):Bool:=e.1==d&& decide (e.2.1=s)
def UA (r:Int) (e:Ub):Bool:=e.2.2.1==r
def UpY.at (Y:UpY) (r:Int):Option bx:=Y.L.find? (rQ r)
def UpY.kK (Y:UpY) (d:Int) (s:ByteArray):Option Ub:=Y.E.find? (isE d s)
def UpY.afl (Y:UpY) (r:Int):Int:=if r=1 then 1 else (Y.E.countP (UA r):Int)
abbrev uC:=List (K3×Value×List Int)
def vJ (M:uC):List (K3×Value):=M.map λp=>(p.1,p.2.1)
def sJ {α:Type} (M:List (Int×Nat×α)):List (Int×Value):=M.map λp=>(p.1,ptr p.2.1 0)
inductive HK
 | ch (kt tI:TypeId) (M:uC) (o:Option (Nat×Value)) (key:K3) (st:Option Nat)
 | pm (kt tR:TypeId) (e:Ty) (M:List (Int×Nat×e.den)) (i:Nat) (key:Int) (bb:Nat)
 | sf (t:TypeId) (e:Ty) (xs:List e.den) (i:Int) (off:Nat)
inductive AbK
 | iter (z:ByteArray) (p:Nat)
 | ch (kt tI:TypeId) (M:uC)
 | pm (kt tR:TypeId) (e:Ty) (M:List (Int×Nat×e.den))
 | pz (kt tR:TypeId) (e:Ty) (M:List (Int×Nat×e.den)) (hz:Hp) (mb:Nat)
 | Pr (kt:TypeId) (l:Nat) (e:Ty) (hz:Hp) (mb:Nat) (left:List (Int×Nat×e.den)) (cur:Option (Int×Nat×e.den))
def py (e:Ty) (t:TypeId) (v:Value) (xs:List e.den):Atom:= @BN e.den e.rep t v xs
def Kk.tH:Kk->TypeDesc
 | .int=>.int .i64
 | .str=>.string
def QM (hz:Hp) (v0:Value) (ob:Array MapEntry×Nat):Prop:=v0= .map none\/∃ b,v0= .map (some b)/\hz b=some (.map ob.1 ob.2)
def Oj (tI:TypeId) (p:K3×Value×List Int):Atom:=py (.int .i64) tI p.2.1 p.2.2
def tj (tR:TypeId) (e:Ty) (p:Int×Nat×e.den):Atom:=⟨λg h=>∃ us,e.rep.rel g us p.2.2/\h p.2.1=some (.cells us.toArray tR (0,0)),λm ⟨us,h1,h2⟩=>⟨us,e.rep.mono m h1,h2⟩⟩
def Yr (A:List Atom) (o:Option (Nat×Value)):List Atom:=match o with
 | some (i,_)=>dD A i
 | none=>A
def aeV (M:uC) (o:Option (Nat×Value)) (key:K3) (st:Option Nat) (vn:Value):Prop:=match o with
 | some (i,u)=>(∃ xs,M[i]?=some (key,u,xs))/\(st=none->u=vn)
 | none=>∀ p∈M,p.1≠key
def PF (P:Program) (kt:TypeId) (mb:Nat) (M:uC) (key:K3) (val:Value):Option Nat->Atom
 | none=>mapA P kt mb (vJ M)
 | some st=>Gk P kt mb (qP (vJ M) key val) key st
def chA (kt tI:TypeId) (M:uC) (v:Value):Atom:=
 exA λx:Nat×Program=>sK (v=ptr x.1 0/\w9 x.2 kt=true)::mapA x.2 kt x.1 (vJ M)::M.map (Oj tI)
def pmA (kt tR:TypeId) (e:Ty) (M:List (Int×Nat×e.den)) (v:Value):Atom:=
 exA λx:Nat×Program=>sK (v=ptr x.1 0/\x.2.underlying kt=some (.int .i64))::mapA x.2 kt x.1 (sJ M)::M.map (tj tR e)
def sfA (t:TypeId) (e:Ty) (xs:List e.den) (i:Int) (off:Nat) (v vn:Value):Atom:=
 ⟨λg h=>∃ cs:List (List Value),(ur t e.size v xs.length cs.flatten).sat g h/\((∀ x∈cs,x.length=e.size)/\cs.length=xs.length/\0<=i/\i< xs.length/\off< e.size)/\((∃ a n c,vn= .slice a n c)/\∃ r,cs[i.toNat]?=some r/\r[off]?=some vn)/\∀ g',bA g g'->∀ (E:Env) (c:Cl),cv E g' c vn->∀ x',e.of ((e.cells (aB e xs i)).set off c)=some (x',[])-> @eF e.den e.rep g' cs (xs.set i.toNat x'),λm ⟨cs,h1,h2,h3,h4⟩=>⟨cs,(ur _ _ _ _ _).mono m h1,h2,h3,λg' m'=>h4 g' (m.trans m')⟩⟩
def adm {α:Type} (kt:TypeId) (hz:Hp) (mb:Nat) (left:List (Int×Nat×α)) (cur:Option (Int×Nat×α)) (v:Value):Atom:=
 exA λx:Nat×Program×(Array MapEntry×Nat)=>[sK (v=ptr x.1 0/\x.2.1.underlying kt=some (.int .i64)/\QM hz (.map (some mb)) x.2.2),@mH Int Kk.int.key x.2.1 kt (.map (some mb)) x.2.2 x.1 (sJ left) (cur.map λp=>(p.1,ptr p.2.1 0))]
def HK.atom:HK->Value->Value->Atom
 | .ch kt tI M o key st,v,vn=>exA λx:Nat×Program×Value=>sK (v=ptr x.1 0/\w9 x.2.1 kt=true/\aeV M o key st vn/\((vJ M).map (·.1)).Nodup)::PF x.2.1 kt x.1 M key x.2.2 st::Yr (M.map (Oj tI)) o
 | .pm kt tR e M i key bb,v,vn=>exA λx:Nat×Program=>sK (v=ptr x.1 0/\x.2.underlying kt=some (.int .i64)/\(∃ y,M[i]?=some (key,bb,y))/\vn=ptr bb 0)::mapA x.2 kt x.1 (sJ M)::dD (M.map (tj tR e)) i
 | .sf t e xs i off,v,vn=>sfA t e xs i off v vn
def AbK.atom:AbK->Value->Atom
 | .ch kt tI M,v=>chA kt tI M v
 | .pm kt tR e M,v=>pmA kt tR e M v
 | .pz kt tR e M hz mb,v=>⟨λg h=>v=ptr mb 0/\h=hz/\(pmA kt tR e M v).sat g h,λm ⟨h1,h2,h3⟩=>⟨h1,h2,Atom.mono _ m h3⟩⟩
 | .Pr kt _ _ hz mb left cur,v=>adm kt hz mb left cur v
 | .iter z p,v=>⟨λ_ h=>z.size<=maxLen/\∃ b,v=ptr b 0/\h b=some (.stringIter z p),λ_ h=>h⟩
inductive HO
 | cells (t:TypeId) (cs:List Cl)
 | sl (t:TypeId) (e:Ty) (xs:List e.den)
 | held (t:TypeId) (e:Ty) (xs:List e.den)
 | map (t:TypeId) (k:Kk) (e:Ty) (xs:List (k.den×e.den))
 | abs (a:Value->Atom)
 | ab (k:AbK)
 | gone
 | qk (k:HK) (n:Nat)
def aiP (E:Env) (l:Nat) (t:TypeId) (cs:List Cl):Atom:=
 ⟨λg h=>∃ b us,E[l]?=some (ptr b 0)/\bB E g cs us/\h b=some (.cells us.toArray t (0,0)),λm ⟨b,us,h1,h2,h3⟩=>⟨b,us,h1,h2.mono (bz.refl _) m,h3⟩⟩
def cJ (E:Env) (l:Nat):HO->Atom
 | .cells t cs=>aiP E l t cs
 | .sl t e xs=>⟨λg h=>∃ v,E[l]?=some v/\(py e t v xs).sat g h,λm ⟨v,h1,h2⟩=>⟨v,h1,Atom.mono _ m h2⟩⟩
 | .held _ e xs=>⟨λg _=>∃ v,E[l]?=some v/\oa e g v xs,λm ⟨v,h1,h2⟩=>⟨v,h1,h2.mono m⟩⟩
 | .map t k e xs=>⟨λg h=>∃ b m,E[l]?=some (ptr b 0)/\rH g k e m xs/\∃ P,j7 P t k=true/\(@mapA k.den k.key P t b m).sat g h,λm ⟨b,l,h1,h2,h3⟩=>⟨b,l,h1,h2.mono m,h3⟩⟩
 | .abs a=>⟨λg h=>∃ v,E[l]?=some v/\(a v).sat g h,λm ⟨v,h1,h2⟩=>⟨v,h1,Atom.mono _ m h2⟩⟩
 | .ab k=>⟨λg h=>∃ v,E[l]?=some v/\(k.atom v).sat g h,λm ⟨v,h1,h2⟩=>⟨v,h1,Atom.mono _ m h2⟩⟩
 | .gone=>sK True
 | .qk k n=>⟨λg h=>∃ v vn,E[l]?=some v/\E[n]?=some vn/\(k.atom v vn).sat g h,λm ⟨v,vn,h1,h2,h3⟩=>⟨v,vn,h1,h2,Atom.mono _ m h3⟩⟩
def bh (E:Env):Nat->List HO->List Atom
 | _,[]=>[]
 | l,o::r=>cJ E l o::bh E (l+1) r
theorem cJ.env (he:bz E E') {l:Nat}:∀ {o:HO} {h:Hp},(cJ E l o).sat g h->(cJ E' l o).sat g h
 | .cells _ _,_,⟨b,us,h1,h2,h3⟩=>⟨b,us,he _ _ h1,h2.mono he (bA.refl _),h3⟩
 | .sl _ _ _,_,⟨v,h1,h2⟩=>⟨v,he _ _ h1,h2⟩
 | .held _ _ _,_,⟨v,h1,h2⟩=>⟨v,he _ _ h1,h2⟩
 | .map ..,_,⟨b,m,h1,h2⟩=>⟨b,m,he _ _ h1,h2⟩
 | .abs _,_,⟨v,h1,h2⟩=>⟨v,he _ _ h1,h2⟩
 | .ab _,_,⟨v,h1,h2⟩=>⟨v,he _ _ h1,h2⟩
 | .gone,_,h=>h
 | .qk _ _,_,⟨v,vn,h1,h2,h3⟩=>⟨v,vn,he _ _ h1,he _ _ h2,h3⟩
variable {F:List Atom}
theorem bh.env (he:bz E E'):∀ {H:List HO} {k:Nat} {h:Hp},bt g (bh E k H++F) h->bt g (bh E' k H++F) h
 | [],_,_,s=>s
 | _::_,_,_,⟨h1,h2,ap,e,s1,s2⟩=>⟨h1,h2,ap,e,cJ.env he s1,bh.env he s2⟩
theorem uR:∀ (H:List HO) (k:Nat),(bh E k H).length=H.length
 | [],_=>rfl
 | _::r,k=>by simp [bh,uR r (k+1)]
theorem jP:∀ {H:List HO} {k l:Nat} {o:HO},H[l]?=some o->wQ (bh E k H++F) l=some (cJ E (k+l) o)
 | [],_,_,_,h=>by simp at h
 | x::r,k,0,o,h=>by
  have:x=o:=by simpa using h
  subst this;rfl
 | x::r,k,l+1,o,h=>by
  have:=jP (H:=r) (k:=k+1) (l:=l) (o:=o) (by simpa using h);rw [show k+(l+1)=k+1+l by omega];exact this
theorem kQ:∀ {H:List HO} {k l:Nat} {o':HO},l< H.length->wy (bh E k H++F) l (cJ E (k+l) o')=bh E k (H.set l o')++F
 | [],_,_,_,h=>by simp at h
 | x::r,k,0,o',h=>rfl
 | x::r,k,l+1,o',h=>by
  have:=kQ (H:=r) (k:=k+1) (l:=l) (o':=o') (by simpa using h);rw [show k+(l+1)=k+1+l by omega];show cJ E k x::wy (bh E (k+1) r++F) l _=cJ E k x::(bh E (k+1) (r.set l o')++F);rw [this]
theorem bt.toEnd {a:Atom}:∀ {A:List Atom} {h:Hp},bt g (a::(A++F)) h->bt g (A++a::F) h
 | [],_,s=>s
 | _::_,_,s=>by
  obtain ⟨h1,h2,ap,e,s1,s2⟩:=s.swap;exact ⟨h1,h2,ap,e,s1,bt.toEnd s2⟩
theorem bt.pc {a:Atom}:∀ {A:List Atom} {h:Hp},bt g (A++a::F) h->bt g (a::(A++F)) h
 | [],_,s=>s
 | _::_,_,⟨h1,h2,ap,e,s1,s2⟩=>bt.swap ⟨h1,h2,ap,e,s1,bt.pc s2⟩
theorem oT:∀ (H K:List HO) (k:Nat),bh E k (H++K)=bh E k H++bh E (k+H.length) K
 | [],_,_=>rfl
 | x::r,K,k=>by
  show cJ E k x::bh E (k+1) (r++K)=cJ E k x::(bh E (k+1) r++bh E (k+(r.length+1)) K);rw [oT r K (k+1),show k+1+r.length=k+(r.length+1) by omega]
structure Sat (W:cV) (E:Env) (g w:World) (H:List HO) (F:List Atom):Prop where
 sl:SL W g w (bh E 0 H++F)
 len:E.length=H.length
variable {W:cV} {w w':World} {H:List HO}
theorem Sat.pick {l:Nat} {o:HO} (S:Sat W E g w H F) (h:H[l]?=some o):SL W g w (cJ E l o::dD (bh E 0 H++F) l):=by
 have:=S.sl.pick l (jP h);rw [cd] at this;exact this
theorem Sat.back {l:Nat} {o:HO} (o':HO) (hl:E.length=H.length) (h:H[l]?=some o) (S:SL W g w (cJ E l o'::dD (bh E 0 H++F) l)):Sat W E g w (H.set l o') F:=by
 have eJ:=(av.1 h).1;refine ⟨?_,by simp [hl]⟩;have:=S.om l (jP h);have h2:=kQ (E:=E) (F:=F) (k:=0) (o':=o') eJ;rw [cd] at h2;rw [<-h2];exact this
theorem Sat.push {o:HO} {v:Value} (hl:E.length=H.length) (S:SL W g w (cJ (E++ [v]) H.length o::(bh E 0 H++F))):Sat W (E++ [v]) g w (H++ [o]) F:=by
 refine ⟨?_,by simp [hl]⟩;rw [oT,aH,cd];refine S.cE λh s=>?_;obtain ⟨h1,h2,ap,e,s1,s2⟩:=s;exact bt.toEnd ⟨h1,h2,ap,e,s1,bh.env (bz.app E [v]) s2⟩
theorem Sat.move {l:Nat} {o o2:HO} {v:Value} (hl:E.length=H.length) (h:H[l]?=some o) (S:SL W g w (cJ (E++ [v]) H.length o2::dD (bh E 0 H++F) l)):Sat W (E++ [v]) g w (H.set l .gone++ [o2]) F:=by
 have hlen:(H.set l .gone).length=H.length:=gJ;refine Sat.push (H:=H.set l .gone) (by simp [hl]) ?_;rw [hlen];refine S.cE λh0 s=>?_;obtain ⟨h1,h2,ap,e,s1,s2⟩:=s;refine ⟨h1,h2,ap,e,s1,?_⟩;have eJ:=(av.1 h).1;have h3:=kQ (E:=E) (F:=F) (k:=0) (o':=.gone) eJ;rw [cd] at h3;rw [<-h3];exact bt.om (jP h) ⟨λ_=>none,h2,λ_=>.inl rfl,by funext b;rfl,trivial,s2⟩
theorem Sat.le (S:Sat W E g w H F) (l:Le w w'):Sat W E g w' H F:=⟨S.sl.le l,S.len⟩
theorem Sat.m (S:Sat W E g w H F):bA g w:=S.sl.m
end

abbrev Am:=List (Nat×SV)
def gh:Am->Nat->Option SV
 | [],_=>none
 | (k,v)::s,t=>bif Nat.beq k t then some v else gh s t
def gG:List (Nat×HO)->Nat->Option HO
 | [],_=>none
 | (k,v)::s,t=>bif Nat.beq k t then some v else gG s t
def lN:List HO->Nat->HO
 | [],_=>.gone
 | o::_,0=>o
 | _::r,i+1=>lN r i
structure Bs where
 f:Am
 h:List HO
structure Ov where
 f:Am
 h:List (Nat×HO)
 n:Nat
def Bs.slot (b:Bs) (s:Ov) (t:Nat):Option SV:=match gh s.f t with
 | some v=>some v
 | none=>gh b.f t
def Bs.obj (b:Bs) (s:Ov) (l:Nat):HO:=match gG s.h l with
 | some o=>o
 | none=>lN b.h l
def Bs.heap (b:Bs) (s:Ov):List HO:=(bP s.n).map (b.obj s)
def Ov.put (s:Ov) (d:Option Nat) (v:SV):Ov:=match d with
 | some t=> {s with f:=(t,v)::s.f}
 | none=>s
def Ov.dU (s:Ov) (l:Nat) (o:HO):Ov:= {s with h:=(l,o)::s.h}
def Ov.new (s:Ov) (o:HO):Ov:= {s with h:=(s.n,o)::s.h,n:=s.n+1}
def okB:Value->Bool
 | .int k n=>(Lit.int k n).wf
 | .string s=>decide (s.size<=maxLen)
 | v=>v.oneCell'
def uf:List Value->Option (List Cl)
 | []=>some []
 | v::r=>if okB v then (match uf r with| some l=>some (.k v::l)| none=>none) else none
def JA:Value->Option SV
 | .agg cs=>match uf cs.toList with
  | some l=>some (.v (.agg l))
  | none=>none
 | v=>if okB v then some (.k v) else none
def fg (b:Bs) (s:Ov):Operand->Option SV
 | .tmp t=>b.slot s t
 | .const v=>JA v
 | .func f=>some (.c (.fn f []))
 | .global _=>none
def br (c:Bool) (p q:Prop):Prop:=Bool.rec q p c
def kR (a b:ByteArray):Bool:=a.toList==b.toList
def lD (a b:ByteArray):Bool:=Op.bytesLess a.toList b.toList
def arith (k:IntKind) (z:Int) (K:SV->Prop):Prop:=match k with
 | .i64=>aI .i64 z/\K (.int z)
 | k=>aI k (k.wrap z)->K (.k (.int k (k.wrap z)))
def di (op:BinOp) (k:IntKind) (x y:Int):Int:=
 let a:=BitVec.ofInt k.bits x;let b:=BitVec.ofInt k.bits y
 k.wrap ((match op with
  | .and=>a&&& b
  | .or=>a||| b
  | .xor=>a ^^^ b
  | _=>a&&& ~~~b).toNat)
def Aq (k:IntKind) (x y:Int):Int:=k.wrap (x*2 ^ (min y.toNat k.bits))
def kO (k:IntKind) (x y:Int):Int:=x.fdiv (2 ^ (min y.toNat k.bits))
abbrev je (T:List Int) (im:List UInt8) (s0 s1 s2 s3 s4 s5 s6 s7 s8 s9:Int) (pl ids:List Int) (nm:Int):HO:=.cells 90 [.de (.int .u32) T 0 0,.d .u8 im,.k (.int .i64 s0),.k (.int .i64 s1),.k (.int .i64 s2),.k (.int .i64 s3),.k (.int .i64 s4),.k (.int .i64 s5),.k (.int .i64 s6),.k (.int .i64 s7),.k (.int .i64 s8),.k (.int .i64 s9),.d (.int .i64) pl,.d (.int .i64) ids,.p 1 0,.p 2 0,.p 3 0,.m 4,.k (.int .i64 nm)]
abbrev wL (L:List bx) (ids:List Int):HO:=.cells 120 [.p 1 0,.p 2 0,.p 3 0,.d noTy L,.d (.int .i64) ids,.m 4,.m 5,.m 6]
abbrev wJ (M:List (Int×Int)):HO:=.map 3 .int (.int .i64) M
abbrev kY (M:List (ByteArray×Int)):HO:=.map 9 .str (.int .i64) M
abbrev pX (a:Int):Int:=kO .u64 (IntKind.wrap .u64 a) 1
abbrev iM (a:Int):Int:=IntKind.wrap .i64 a
abbrev jF:SV:=.v (.c (.k (.bool false)))
abbrev oZ:SV:=.v (.c (.k (.bool true)))
abbrev bw:Ty:=.int .i64
abbrev bD:Ty:=.sl .u8
abbrev aN (n:Nat):Prop:=n<=9223372036854775807
abbrev fp (n:Nat):Prop:=n<=140737488355328
abbrev IH:bx:=([],0,0,(0,0,0,()),[],ByteArray.mk #[],[],false,())
abbrev a6 {α:Type} (l:List α):Int:=(l.length:Int)
abbrev aF {α:Type} (l:List α):Int:=(l.length:Int)
abbrev ah:Int:=0
abbrev a8:Int:=1
abbrev du:Int:=2
abbrev lp:Int:=3
abbrev cH:Int:=4
abbrev iA:Int:=8
abbrev Yi:Int:=16
abbrev gv:Int:=64
abbrev bI:Int:=128
abbrev fa:Int:=256
abbrev bC:Nat:=0
abbrev bJ:Nat:=1
abbrev bj:Nat:=2
abbrev eX:Nat:=3
abbrev cX:Nat:=4
abbrev ke:Nat:=5
abbrev zQ:Nat:=6
abbrev kc:Nat:=7
abbrev Gd:Nat:=8
abbrev iz:Nat:=9
abbrev ef:Nat:=64
abbrev jf:Nat:=128
abbrev bN:Nat:=256
def PS (op:BinOp) (k:IntKind) (x y:Int) (K:SV->Prop):Prop:=match op with
 | .add=>arith k (x+y) K
 | .sub=>arith k (x - y) K
 | .mul=>arith k (x*y) K
 | .quo=>y≠0/\arith k (x.tdiv y) K
 | .rem=>y≠0/\(aI k (x.tmod y)->K (.k (.int k (x.tmod y))))
 | .eql=>K (.bool (x==y))
 | .neq=>K (.bool (x !=y))
 | .lss=>K (.bool (decide (x< y)))
 | .leq=>K (.bool (decide (x<=y)))
 | .gtr=>K (.bool (decide (x>y)))
 | .geq=>K (.bool (decide (x≥y)))
 | .shl| .shr=>False
 | op=>aI k (di op k x y)->K (.k (.int k (di op k x y)))
def UF (op:BinOp) (x y:ByteArray) (K:SV->Prop):Prop:=match op with
 | .add=>x.size+y.size<=9223372036854775807/\K (.str (x++y))
 | .eql=>K (.bool (kR x y))
 | .neq=>K (.bool (!kR x y))
 | .lss=>K (.bool (lD x y))
 | .leq=>K (.bool (lD x y|| kR x y))
 | .gtr=>K (.bool (!(lD x y|| kR x y)))
 | .geq=>K (.bool (!lD x y))
 | _=>False
inductive Nil
 | yes| no| may (p:Prop)| unknown
def Sv (b:Bs) (s:Ov):Cl->Nil
 | .k (.pointer none)| .k (.slice none 0 0)| .k (.map none)| .k .nilFunc| .k .nilIface=>.yes
 | .p .. | .de .. | .oe .. | .m .. | .fn .. | .DP .. =>.no
 | .d _ x=>.may (x= [])
 | .o l=>match b.obj s l with
  | .sl _ _ x| .held _ _ x=>.may (x= [])
  | _=>.unknown
 | _=>.unknown
def Gi (d:Option TypeDesc) (y:Cl):Bool:=match d,y with
 | some (.pointer _),.k (.pointer none)=>true
 | some (.slice _),.k (.slice none 0 0)=>true
 | some (.map _ _),.k (.map none)=>true
 | some (.func _ _ _),.k .nilFunc=>true
 | some (.interface _),.k .nilIface=>true
 | _,_=>false
def YB (d:Option TypeDesc) (y:Cl):Bool:=match d,y with
 | some (.pointer _),.k (.pointer none)| some (.pointer _),.p .. | some (.pointer _),.de .. | some (.pointer _),.oe .. =>true
 | some (.slice _),.k (.slice none 0 0)| some (.slice _),.d .. | some (.slice _),.o .. =>true
 | some (.map _ _),.k (.map none)| some (.map _ _),.m .. =>true
 | some (.func _ _ _),.k .nilFunc| some (.func _ _ _),.fn .. =>true
 | some (.interface _),.k .nilIface| some (.interface _),.DP .. =>true
 | _,_=>false
def isIface:Cl->Bool
 | .k .nilIface=>true
 | _=>false
def adx (b:Bs) (s:Ov) (Jw:Bool) (c:Cl) (eq:Bool) (K:SV->Prop):Prop:=match Sv b s c with
 | .yes=>if isIface c&& !Jw then False else K (.bool eq)
 | .no=>K (.bool (!eq))
 | .may p=>∀ c:Bool,(c=true->p)->K (.bool (if eq then c else !c))
 | .unknown=>False
def isEq:BinOp->Option Bool
 | .eql=>some true
 | .neq=>some false
 | _=>none
def Js (P:Program):(fuel:Nat)->List Field->List Cl->List Cl->Option Bool
 | 0,_,_,_=>none
 | _+1,[],_,_=>some true
 | d+1,f::fs,xs,ys=>if f.name != "_" then (match P.underlying f.type,P.info? f.type with
  | some (.int k0),some i=>if Nat.beq i.size 1 then (match xs[f.offset]?,ys[f.offset]? with
   | some (.k (.int k a)),some (.k (.int k' b))=>if IntKind.beq k0 k&& IntKind.beq k k' then (match Js P d fs xs ys with
    | some r=>some ((a==b)&& r)
    | none=>none) else none
   | _,_=>none) else none
  | some .bool,some i=>if Nat.beq i.size 1 then (match xs[f.offset]?,ys[f.offset]? with
   | some (.k (.bool a)),some (.k (.bool b))=>(match Js P d fs xs ys with
    | some r=>some ((a==b)&& r)
    | none=>none)
   | _,_=>none) else none
  | some .string,some i=>if Nat.beq i.size 1 then (match xs[f.offset]?,ys[f.offset]? with
   | some (.k (.string a)),some (.k (.string b))=>(match Js P d fs xs ys with
    | some r=>some (kR a b&& r)
    | none=>none)
   | _,_=>none) else none
  | some (.struct gs),some i=>if P.stoodInHeld f.type then none else (match Js P d gs.toList ((xs.drop f.offset).take i.size) ((ys.drop f.offset).take i.size) with
   | some a=>(match Js P d fs xs ys with
    | some r=>some (a&& r)
    | none=>none)
   | none=>none)
  | _,_=>none) else none
def Jf (wr:Bool) (op:BinOp) (k:IntKind) (x y:Int) (K:SV->Prop):Prop:=match wr with
 | true=>(match k,op with
  | .i64,.add=>aI .i64 (IntKind.wrap .i64 (x+y))->K (.int (IntKind.wrap .i64 (x+y)))
  | .i64,.sub=>aI .i64 (IntKind.wrap .i64 (x - y))->K (.int (IntKind.wrap .i64 (x - y)))
  | .i64,.mul=>aI .i64 (IntKind.wrap .i64 (x*y))->K (.int (IntKind.wrap .i64 (x*y)))
  | k,op=>PS op k x y K)
 | false=>PS op k x y K
def yU (k0:IntKind):List Cl->List Cl->Option Bool
 | [],[]=>some true
 | .k (.int k a)::l,.k (.int k' b)::m=>if IntKind.beq k0 k&& IntKind.beq k k' then (match yU k0 l m with
  | some r=>some ((a==b)&& r)
  | none=>none) else none
 | _,_=>none
def Zz (P:Program) (n:Nat) (e:TypeId) (l m:List Cl):Option Bool:=match P.underlying e,P.info? e with
 | some (.int k0),some i=>if Nat.beq i.size 1&& Nat.beq l.length n then yU k0 l m else none
 | _,_=>none
def El (wr:Bool) (P:Program) (b:Bs) (s:Ov) (Jw:Bool) (op:BinOp) (t:TypeId) (x y:SV) (K:SV->Prop):Prop:=match x,y with
 | .v (.c (.k (.int k m))),.v (.c (.k (.int k' n)))=>match op with
  | .shl=>0<=n/\(aI k (Aq k m n)->K (.k (.int k (Aq k m n))))
  | .shr=>0<=n/\(aI k (kO k m n)->K (.k (.int k (kO k m n))))
  | op=>if IntKind.beq k k' then Jf wr op k m n K else False
 | .v (.c (.k (.string m))),.v (.c (.k (.string n)))=>UF op m n K
 | .v (.c (.k (.bool m))),.v (.c (.k (.bool n)))=>match P.underlying t,op with
  | some .bool,.eql=>K (.bool (m==n))
  | some .bool,.neq=>K (.bool (!(m==n)))
  | _,_=>False
 | .v (.agg l),.v (.agg m)=>match P.underlying t with
  | some (.struct fs)=>if P.eqGuardType P.depth t|| P.stoodInHeld t then False else (match isEq op,Js P 9999 fs.toList l m with
   | some true,some r=>K (.bool r)
   | some false,some r=>K (.bool (!r))
   | _,_=>False)
  | some (.array n e)=>if P.eqGuardType P.depth t then False else (match isEq op,Zz P n e l m with
   | some true,some r=>K (.bool r)
   | some false,some r=>K (.bool (!r))
   | _,_=>False)
  | _=>False
 | .v (.c x),.v (.c y)=>match isEq op with
  | some e=>if Gi (P.underlying t) y&& YB (P.underlying t) x then adx b s Jw x e K else if Gi (P.underlying t) x&& YB (P.underlying t) y then adx b s Jw y e K else False
  | none=>False
 | _,_=>False
def unV (wr:Bool) (op:UnOp) (x:SV) (K:SV->Prop):Prop:=match op,x with
 | .not,.v (.c (.k (.bool b)))=>K (.bool (!b))
 | .neg,.v (.c (.k (.int k n)))=>Jf wr .sub k 0 n K
 | .xor,.v (.c (.k (.int k n)))=>aI k (di .xor k (if k.signed then -1 else k.max) n)->K (.k (.int k (di .xor k (if k.signed then -1 else k.max) n)))
 | _,_=>False
def pY (P:Program) (t:TypeId) (cs:List Cl) (off:Nat):Option S1:=match P.underlying t with
 | none=>none
 | some d=>if d.isRow then (match P.info? t with
   | some i=>if Nat.ble (off+i.size) cs.length then some (.agg ((cs.drop off).take i.size)) else none
   | none=>none)
  else match cs[off]? with
   | some c=>some (.c c)
   | none=>none
def oc (P:Program) (t:TypeId):Option (List Cl):=match P.info? t with
 | some i=>match i.zero with
  | some z=>uf z.cells.toList
  | none=>none
 | none=>none
def L9 (P:Program) (t:TypeId):Option (Nat×IntKind):=match P.underlying t,P.info? t with
 | some (.array n e),some i=>(match P.underlying e,P.info? e with
  | some (.int k),some ie=>if gx 8 n&& (Nat.ble n 1000000&& (Nat.beq i.size n&& Nat.beq ie.size 1)) then some (n,k) else none
  | _,_=>none)
 | _,_=>none
def sS (P:Program) (b:Bs) (s:Ov) (t:TypeId) (x:Cl) (K:SV->Prop):Prop:=match x with
 | .p l off=>match b.obj s l with
  | .cells _ cs=>match pY P t cs off with
   | some v=>K (.v v)
   | none=>False
  | _=>False
 | .kl l (.pointer (some ⟨bb,off,none⟩))=>match b.obj s l with
  | .ab (.pz _ _ e M _ _)=>∃ p,p∈M/\p.2.1=bb/\match pY P t (e.cells p.2.2) off with
   | some v=>e.ok p.2.2->K (.v v)
   | none=>False
  | _=>False
 | .de e x i off=>match pY P t (e.cells (aB e x i)) off with
  | some v=>e.ok (aB e x i)->K (.v v)
  | none=>False
 | .oe l sz i off=>match b.obj s l with
  | .sl _ e xs=>(match L9 P t with
   | some (n,k)=>(match zk (.int k) xs with
    | some ys=>if Nat.beq sz 1&& Nat.beq off 0 then (i=0/\ys.length=n/\K (.arr k ys)) else False
    | none=>False)
   | none=>if Nat.beq e.size sz then (0<=i/\i< xs.length/\match pY P t (e.cells (aB e xs i)) off with
    | some v=>e.ok (aB e xs i)->K (.v v)
    | none=>False) else False)
  | .qk (.sf _ e _ j o) n=>(match P.underlying t with
   | some (.slice _)=>if Nat.beq e.size sz&& Nat.beq off o then i=j/\K (.c (.o n)) else False
   | _=>False)
  | _=>False
 | _=>False
def LP (cs:List Cl) (off:Nat) (l:List Cl):List Cl:=cs.take off++(l++cs.drop (off+l.length))
def BI (P:Program) (b:Bs) (s:Ov) (t:TypeId) (x:Cl) (v:S1) (K:Ov->Prop):Prop:=match P.info? t with
 | none=>False
 | some i=>if Nat.beq v.cells.length i.size then match x with
  | .p l off=>match b.obj s l with
   | .cells u cs=>if Nat.ble (off+i.size) cs.length then K (s.dU l (.cells u (LP cs off v.cells))) else False
   | _=>False
  | .oe l sz i off=>match b.obj s l,v with
   | .sl u e xs,.c c=>if Nat.beq e.size sz&& gx off e.size then (0<=i/\i< xs.length/\match e.of ((e.cells (aB e xs i)).set off c) with
     | some (x',[])=>K (s.dU l (.sl u e (xs.set i.toNat x')))
     | _=>False) else False
   | .sl u e xs,.agg l'=>if Nat.beq e.size sz&& Nat.ble (off+l'.length) e.size then (0<=i/\i< xs.length/\match e.of (LP (e.cells (aB e xs i)) off l') with
     | some (x',[])=>K (s.dU l (.sl u e (xs.set i.toNat x')))
     | _=>False) else False
   | _,_=>False
  | _=>False
 else False
def ud (P:Program) (t:TypeId) (j:Nat):Option Field:=match P.underlying t with
 | some (.struct fs)=>fs[j]?
 | _=>none
def aaI (x:Cl) (o:Nat):Option Cl:=match x with
 | .p l off=>some (.p l (off+o))
 | .de e x i off=>if Nat.ble (off+o) e.size then some (.de e x i (off+o)) else none
 | .oe l sz i off=>some (.oe l sz i (off+o))
 | .kl l (.pointer (some ⟨bb,off,none⟩))=>some (.kl l (.pointer (some ⟨bb,off+o,none⟩)))
 | _=>none
def Eb (P:Program) (b:Bs) (s:Ov) (t:TypeId) (x:Cl) (K:SV->Prop):Prop:=match P.underlying t,x with
 | some .string,.k (.string z)=>K (.int z.size)
 | some (.slice _),.k (.slice none 0 0)=>K (.int 0)
 | some (.map _ _),.k (.map none)=>K (.int 0)
 | some (.slice _),.d _ x=>x.length<=9223372036854775807->K (.int x.length)
 | some (.slice _),.sc _ _ n=>n<=9223372036854775807/\K (.int n)
 | some (.slice _),.o l=>match b.obj s l with
  | .sl _ _ xs| .held _ _ xs=>xs.length<=9223372036854775807->K (.int xs.length)
  | _=>False
 | some (.map k _),.m l=>match b.obj s l with
  | .map k' kk _ xs=>if Nat.beq k k'&& j7 P k kk then (xs.length<=9223372036854775807->K (.int xs.length)) else False
  | .ab (.pm kt _ _ M)=>if Nat.beq k kt&& j7 P k .int then (M.length<=9223372036854775807->K (.int M.length)) else False
  | _=>False
 | _,_=>False
def iv (P:Program) (b:Bs) (s:Ov) (t:TypeId) (x:Cl) (i:Int) (K:SV->Prop):Prop:=match P.underlying t with
 | some (.array n et)=>match P.info? et,x with
  | some ie,.p l off=>0<=i/\i< n/\K (.c (.p l (off+i.toNat*ie.size)))
  | some ie,.oe l sz j 0=>(match b.obj s l with
   | .sl _ e xs=>if Nat.beq e.size ie.size&& Nat.beq sz ie.size then (j=0/\0<=i/\i< n/\i< xs.length/\K (.c (.oe l e.size i 0))) else False
   | .held _ e xs=>if Nat.beq e.size ie.size&& Nat.beq sz ie.size then (j=0/\0<=i/\i< n/\i< xs.length/\K (.c (.de e xs i 0))) else False
   | _=>False)
  | some ie,.de e xs j 0=>if Nat.beq e.size ie.size then (j=0/\0<=i/\i< n/\i< xs.length/\K (.c (.de e xs i 0))) else False
  | _,_=>False
 | some (.slice et)=>match P.info? et with
  | none=>False
  | some ie=>match x with
   | .d e x=>if Nat.beq e.size ie.size then (0<=i/\i< x.length/\K (.c (.de e x i 0))) else False
   | .sc l off n=>0<=i/\i< n/\K (.c (.p l (off+i.toNat*ie.size)))
   | .o l=>match b.obj s l with
    | .sl _ e xs=>if Nat.beq e.size ie.size then (0<=i/\i< xs.length/\K (.c (.oe l e.size i 0))) else False
    | .held _ e xs=>if Nat.beq e.size ie.size then (0<=i/\i< xs.length/\K (.c (.de e xs i 0))) else False
    | _=>False
   | _=>False
 | _=>False
def cq:Option Int->Int->Int
 | none,n=>n
 | some l,_=>l
def Sj {α:Type} (x:List α) (lo hi:Option Int) (K:List α->Prop):Prop:=match lo,hi with
 | none,none=>K x
 | some l,none=>0<=l/\l<=x.length/\K (x.drop l.toNat)
 | none,some h=>0<=h/\h<=x.length/\K (x.take h.toNat)
 | some l,some h=>0<=l/\l<=h/\h<=x.length/\K ((x.drop l.toNat).take (h.toNat - l.toNat))
def Yo (lo hi:Option Int) (n:Int) (K:Int->Int->Prop):Prop:=match lo,hi with
 | none,none=>K 0 n
 | some l,none=>0<=l/\l<=n/\K l n
 | none,some h=>0<=h/\h<=n/\K 0 h
 | some l,some h=>0<=l/\l<=h/\h<=n/\K l h
theorem My {α:Type} {x:List α} {lo hi:Option Int} {K:List α->Prop} (h:Sj x lo hi K):0<=cq lo 0/\cq lo 0<=cq hi x.length/\cq hi x.length<=x.length/\K ((x.drop (cq lo 0).toNat).take ((cq hi x.length).toNat - (cq lo 0).toNat)):=by
 cases lo<;>cases hi
 .exact ⟨bp _,jD _,bp _,by
   show K ((x.drop 0).take ((x.length:Int).toNat - 0));rw [List.drop_zero,bm,Nat.sub_zero,ff];exact h⟩
 .rename_i m;obtain ⟨h1,h2,h3⟩:=h;exact ⟨bp _,h1,h2,h3⟩
 .rename_i l;obtain ⟨h1,h2,h3⟩:=h;exact ⟨h1,h2,bp _,by
   show K ((x.drop l.toNat).take ((x.length:Int).toNat - l.toNat));rw [bm,aV (by rw [aW];exact az _)];exact h3⟩
 .obtain ⟨h1,h2,h3,h4⟩:=h;exact ⟨h1,h2,h3,h4⟩
theorem Yn {lo hi:Option Int} {n:Nat} {K:Int->Int->Prop} (h:Yo lo hi n K):0<=cq lo 0/\cq lo 0<=cq hi n/\cq hi n<=n/\K (cq lo 0) (cq hi n):=by
 cases lo<;>cases hi;exact ⟨bp _,jD _,bp _,h⟩
 .obtain ⟨h1,h2,h3⟩:=h;exact ⟨bp _,h1,h2,h3⟩
 .obtain ⟨h1,h2,h3⟩:=h;exact ⟨h1,h2,bp _,h3⟩
 .obtain ⟨h1,h2,h3,h4⟩:=h;exact ⟨h1,h2,h3,h4⟩
def px (P:Program) (b:Bs) (s:Ov) (t:TypeId) (x:Cl) (lo hi:Option Int) (K:SV->Prop):Prop:=match P.underlying t with
 | some .string=>match x with
  | .k (.string z)=>0<=cq lo 0/\cq lo 0<=cq hi z.size/\cq hi z.size<=z.size/\K (.str (z.extract (cq lo 0).toNat (cq hi z.size).toNat))
  | _=>False
 | some (.slice et)=>match P.info? et with
  | none=>False
  | some ie=>match x with
   | .d e x=>if Nat.beq e.size ie.size then Sj x lo hi λy=>K (.c (.d e y)) else False
   | .o q=>match b.obj s q with
    | .sl _ e x=>if Nat.beq e.size ie.size then Yo lo hi x.length λl h=>K (.c (.os q e.size l h)) else False
    | .held _ e x=>if Nat.beq e.size ie.size then Sj x lo hi λy=>K (.c (.d e y)) else False
    | _=>False
   | _=>False
 | some (.array n et)=>match P.info? et with
  | none=>False
  | some ie=>match x with
   | .p l off=>n<=9223372036854775807/\0<=cq lo 0/\cq lo 0< n/\cq lo 0<=cq hi n/\cq hi n<=n/\K (.c (.sc l (off+(cq lo 0).toNat*ie.size) ((cq hi n).toNat - (cq lo 0).toNat)))
   | _=>False
 | _=>False
def intOf (b:Option SV):Option (Option Int):=match b with
 | none=>some none
 | some (.v (.c (.k (.int .i64 n))))=>some (some n)
 | _=>none

abbrev Ct:=List SV->List HO->(SV->List HO->Prop)->Prop
def zU:List (Nat×Ct)->Nat->Ct
 | [],_=>λ_ _ _=>False
 | (k,c)::r,f=>bif Nat.beq k f then c else zU r f
mutual
def Cl.labels:Cl->List Nat
 | .p l _| .o l| .os l _ _ _| .oe l _ _ _| .m l| .sc l _ _| .kl l _=>[l]
 | .fn _ caps=>Cl.nM caps
 | .DP _ c=>c.labels
 | _=>[]
def Cl.nM:List Cl->List Nat
 | []=>[]
 | c::r=>c.labels++Cl.nM r
end
def S1.labels:S1->List Nat
 | .c x=>x.labels
 | .agg l=>Cl.nM l
def SV.labels:SV->List Nat
 | .v x=>x.labels
 | .cZ l=>l.flatMap S1.labels
 | .any=>[]
 | .arr _ _=>[]
def HO.labels:HO->List Nat
 | .cells _ cs=>Cl.nM cs
 | .qk _ n=>[n]
 | _=>[]
mutual
def Cl.fw (r:Nat->Option Nat):Cl->Cl
 | .p l off=>match r l with
  | some l'=>.p l' off
  | none=>.JY
 | .o l=>match r l with
  | some l'=>.o l'
  | none=>.JY
 | .os l sz lo hi=>match r l with
  | some l'=>.os l' sz lo hi
  | none=>.JY
 | .oe l sz i off=>match r l with
  | some l'=>.oe l' sz i off
  | none=>.JY
 | .m l=>match r l with
  | some l'=>.m l'
  | none=>.JY
 | .sc l off n=>match r l with
  | some l'=>.sc l' off n
  | none=>.JY
 | .fn f caps=>.fn f (Cl.wB r caps)
 | .DP t c=>.DP t (c.fw r)
 | .k v=>.k v
 | .d e x=>.d e x
 | .de e x i off=>.de e x i off
 | .kl l v=>match r l with
  | some l'=>.kl l' v
  | none=>.JY
 | .JY=>.JY
def Cl.wB (r:Nat->Option Nat):List Cl->List Cl
 | []=>[]
 | c::l=>c.fw r::Cl.wB r l
end
def S1.fw (r:Nat->Option Nat):S1->S1
 | .c x=>.c (x.fw r)
 | .agg l=>.agg (Cl.wB r l)
def S1.wB (r:Nat->Option Nat):List S1->List S1
 | []=>[]
 | a::l=>a.fw r::S1.wB r l
def SV.fw (r:Nat->Option Nat):SV->SV
 | .v x=>.v (x.fw r)
 | .cZ l=>.cZ (S1.wB r l)
 | .any=>.any
 | .arr k l=>.arr k l
def HO.fw (r:Nat->Option Nat):HO->HO
 | .cells t cs=>.cells t (Cl.wB r cs)
 | .qk k n=>match r n with
  | some n'=>.qk k n'
  | none=>.gone
 | o=>o
def ir:Nat->List Nat->Bool
 | _,[]=>false
 | n,m::r=>bif Nat.beq n m then true else ir n r
def ny:List Nat->Bool
 | []=>true
 | a::r=> !ir a r&& ny r
def iw:List Nat->Nat->Option Nat
 | [],_=>none
 | m::r,n=>bif Nat.beq m n then some 0 else match iw r n with
  | some i=>some (i+1)
  | none=>none
def sg (ob:Nat->HO):Nat->List Nat->List Nat->List Nat
 | 0,_,done=>done
 | _+1,[],done=>done
 | f+1,l::r,done=>bif ir l done then sg ob f r done else sg ob f ((ob l).labels++r) (done++ [l])
def qf:List SV->List Nat
 | []=>[]
 | v::r=>v.labels++qf r
def Aw (b:Bs) (s:Ov):List Operand->Option (List SV)
 | []=>some []
 | x::r=>match fg b s x with
  | some v=>match Aw b s r with
   | some l=>some (v::l)
   | none=>none
  | none=>none
def kf (ls:List Nat) (n:Nat) (l:Nat):Option Nat:=match ls[l]? with
 | some m=>some m
 | none=>some (n+(l - ls.length))
def fy (ls0:List Nat) (n0:Nat):List Nat->List HO->Ov->Ov
 | _,[],s=>s
 | l::ls,o::H,s=>fy ls0 n0 ls H (s.dU l (o.fw (kf ls0 n0)))
 | [],o::H,s=>fy ls0 n0 [] H (s.new (o.fw (kf ls0 n0)))
def qV (P:Program) (f:FuncId):Bool:=match P.funcs[f]? with
 | some fn=> !(fn.name== "runtime.NumGoroutine")&& !fn.body.isNone
 | none=>false
def GL:Cl->Prop->Prop
 | .k (.int k n),p=>aI k n->p
 | .k (.string z),p=>z.size<=9223372036854775807->p
 | .d _ x,p=>x.length<=9223372036854775807->p
 | _,p=>p
def C9:List Cl->Prop->Prop
 | [],p=>p
 | c::r,p=>GL c (C9 r p)
def Nl:S1->Prop->Prop
 | .c c,p=>GL c p
 | .agg l,p=>C9 l p
def C7:List S1->Prop->Prop
 | [],p=>p
 | c::r,p=>Nl c (C7 r p)
def GI:SV->Prop->Prop
 | .v x,p=>Nl x p
 | .cZ l,p=>C7 l p
 | .any,p=>p
 | .arr _ _,p=>p
def P9:List SV->Prop->Prop
 | [],p=>p
 | c::r,p=>GI c (P9 r p)
def Dk (ct:FuncId->Ct) (b:Bs) (s:Ov) (f:FuncId) (args:List SV) (K:SV->Ov->Prop):Prop:=
 let ls:=sg (b.obj s) 1000 (qf args) []
 if ny ls&& ls.all (λl=>gx l s.n) then
  ct f (args.map (·.fw (iw ls))) (ls.map λl=>(b.obj s l).fw (iw ls)) λr H'=>
   (if Nat.ble ls.length H'.length then GI r (K (r.fw (kf ls s.n)) (fy ls s.n ls H' s)) else False)
 else False
def X1:Cl->Cl->Prop->Prop
 | .k v,.k v',p=>v=v'/\p
 | .o l,.o l',p=>if Nat.beq l l' then p else False
 | .p l o,.p l' o',p=>if Nat.beq l l'&& Nat.beq o o' then p else False
 | .kl l v,.kl l' v',p=>if Nat.beq l l' then v=v'/\p else False
 | .d e x,.d _ y,p=>match zk e y with
  | some y'=>x=y'/\p
  | none=>False
 | _,_,_=>False
def OO:List Cl->List Cl->Prop->Prop
 | [],[],p=>p
 | c::l,d::r,p=>X1 c d (OO l r p)
 | _,_,_=>False
def XZ:HO->HO->Prop->Prop
 | .cells t cs,.cells t' xK,p=>if Nat.beq t t' then OO cs xK p else False
 | .sl t e x,.sl t' _ x',p=>if Nat.beq t t' then (match zk e x' with
  | some y=>x=y/\p
  | none=>False) else False
 | .gone,.gone,p=>p
 | _,_,_=>False
def ON:List HO->List HO->Prop->Prop
 | [],[],p=>p
 | a::l,b::r,p=>XZ a b (ON l r p)
 | _,_,_=>False
def Tl (ct:FuncId->Ct) (b:Bs) (s:Ov) (f:FuncId) (args:List SV) (K:SV->Ov->Prop):Prop:=
 let ls:=sg (b.obj s) 1000 (qf args) []
 if ny ls&& ls.all (λl=>gx l s.n&& (b.obj s l).labels.all λq=>ir q ls) then
  ct f (args.map (·.fw (iw ls))) (ls.map λl=>(b.obj s l).fw (iw ls)) λr H'=>
   ON H' (ls.map λl=>(b.obj s l).fw (iw ls)) (GI r (K (r.fw (kf ls s.n)) s))
 else False
structure Vx where
 P:Program
 ct:List (Nat×Ct)
 ty:List (Nat×Ty)
 /-- Which aiF arguments are held from then on. -/
 hold:List Nat:=[]
 /-- Which functions leave the objects that they are given. -/
 ro:List Nat:=[]
 wrap:Bool:=false
 /-- Which loops are gone through round by round, and how often at most. -/
 unr:List (Nat×Nat):=[]
 /-- Is what is out put back at the end, and at heads? -/
 clo:Bool:=false
 cloH:Bool:=false
 /-- The types of maps of records: the record's type, and what it is. -/
 pmT:List (Nat×Nat×Ty):=[]
 /-- The literals of slices.Chunk, and their elements. -/
 chk:List (Nat×Ty):=[]
 /-- Is a slice of one's own laid into another one's element without being held (until the loop behind that)? -/
 sfh:Bool:=false
 /-- Are slices that are made held at once? -/
 mkd:Bool:=false
def afk:List (Nat×Nat)->Nat->Option Nat
 | [],_=>none
 | (k,v)::s,t=>bif Nat.beq k t then some v else afk s t
def Gq:List (Nat×Ty)->Nat->Option Ty
 | [],_=>none
 | (k,v)::s,t=>bif Nat.beq k t then some v else Gq s t
def HE (off:Nat) (cs:List Cl):Ty:=match cs[off]? with
 | some (.k (.int .u8 _))=>.u8
 | some (.k (.int k _))=>.int k
 | _=>.str
def UO (e:Ty):(off n:Nat)->List Cl->Option (List e.den)
 | 0,0,_=>some []
 | 0,n+1,c::r=>match e.of [c] with
  | some (z,[])=>match UO e 0 n r with
   | some l=>some (z::l)
   | none=>none
  | _=>none
 | off+1,n,_::r=>UO e off n r
 | _,_,[]=>none
def k8 (b:Bs):List Cl->Ov->(List Cl->Ov->Prop)->Prop
 | []=>λs k=>k [] s
 | c::r=>λs k=>match c with
  | .o l=>(match b.obj s l with
   | .sl t e xs=>k8 b r (s.dU l (.held t e xs)) λr' s'=>k (.d e xs::r') s'
   | .held _ e xs=>k8 b r s λr' s'=>k (.d e xs::r') s'
   | _=>False)
  | .sc l off n=>(match b.obj s l with
   | .cells _ cs=>if Nat.beq (HE off cs).size 1 then (match UO (HE off cs) off n cs with
    | some zs=>k8 b r (s.dU l .gone) λr' s'=>k (.d (HE off cs) zs::r') s'
    | none=>False) else False
   | _=>False)
  | .oe l sz i off=>(match b.obj s l with
   | .sl t e xs=>if Nat.beq e.size sz&& Nat.ble off e.size then (0<=i/\i< xs.length/\k8 b r (s.dU l (.held t e xs)) λr' s'=>k (.de e xs i off::r') s') else False
   | .held _ e xs=>if Nat.beq e.size sz&& Nat.ble off e.size then (0<=i/\i< xs.length/\k8 b r s λr' s'=>k (.de e xs i off::r') s') else False
   | _=>False)
  | .os l sz lo hi=>(match b.obj s l with
   | .sl t e xs=>if Nat.beq e.size sz then (0<=lo/\lo<=hi/\hi<=xs.length/\k8 b r (s.dU l (.held t e xs)) λr' s'=>k (.d e ((xs.drop lo.toNat).take (hi.toNat - lo.toNat))::r') s') else False
   | .held _ e xs=>if Nat.beq e.size sz then (0<=lo/\lo<=hi/\hi<=xs.length/\k8 b r s λr' s'=>k (.d e ((xs.drop lo.toNat).take (hi.toNat - lo.toNat))::r') s') else False
   | _=>False)
  | c=>k8 b r s λr' s'=>k (c::r') s'
def vL (b:Bs):List SV->Ov->(List SV->Ov->Prop)->Prop
 | []=>λs k=>k [] s
 | v::r=>λs k=>match v with
  | .v (.c c)=>k8 b [c] s λcs s=>match cs with
   | [c']=>vL b r s λr' s'=>k (.v (.c c')::r') s'
   | _=>False
  | .v (.agg l)=>k8 b l s λcs s=>vL b r s λr' s'=>k (.v (.agg cs)::r') s'
  | v=>vL b r s λr' s'=>k (v::r') s'
def sU (b:Bs) (s:Ov) (e:Ty) (x:Cl):Option (List e.den):=match x with
 | .k (.slice none 0 0)=>some []
 | .d _ xs=>zk e xs
 | .o l=>match b.obj s l with
  | .sl _ _ xs| .held _ _ xs=>zk e xs
  | _=>none
 | _=>none
def XN (b:Bs) (s:Ov) (e:Ty) (x:Cl) (K:List e.den->Prop):Prop:=match x with
 | .os q sz lo hi=>match b.obj s q with
  | .sl _ e' xs=>if Nat.beq e'.size sz then (0<=lo/\lo<=hi/\hi<=xs.length/\match zk e ((xs.drop lo.toNat).take (hi.toNat - lo.toNat)) with
   | some ys=>K ys
   | none=>False) else False
  | _=>False
 | x=>match sU b s e x with
  | some ys=>K ys
  | none=>False
def MF (e:Ty):Nat->List Cl->Option (List e.den)
 | 0,[]=>some []
 | 0,_=>none
 | n+1,l=>match e.of l with
  | some (x,r)=>match MF e n r with
   | some xs=>some (x::xs)
   | none=>none
  | none=>none
def Nr (X:Vx) (t:TypeId):Option (TypeId×Ty×TypeInfo):=match X.P.underlying t with
 | some (.slice et)=>match X.P.info? et,Gq X.ty et with
  | some ie,some e=>if Nat.beq e.size ie.size then some (et,e,ie) else none
  | _,_=>none
 | _=>none
def TT (X:Vx) (et:TypeId) (e:Ty):Bool:=match X.P.info? et with
 | some ie=>gx 0 e.size&& (match ie.zero with
  | some z=>Nat.beq z.cells.size e.size
  | none=>false)
 | none=>false
def MV (X:Vx) (et:TypeId):Bool:=match X.P.info? et with
 | some ie=>Nat.beq ie.size 1&& (match ie.zero with
  | some (.int .u8 0)=>Nat.beq ie.bytes 1
  | _=>false)
 | none=>false
def JP (X:Vx) (b:Bs) (s:Ov) (t t2:TypeId) (x y:Cl) (K:SV->Ov->Prop):Prop:=match X.P.underlying t,X.P.underlying t2,y with
 | some (.slice et),some .string,.k (.string z)=>if MV X et then (match x with
  | .k (.slice none 0 0)=>z.size<=140737488355328/\K (.c (.o s.n)) (s.new (.sl et .u8 z.data.toList))
  | .o l=>match b.obj s l with
   | .sl Ou _ xs=>if Nat.beq Ou et then (match zk .u8 xs with
    | some xs=>xs.length+z.size<=140737488355328/\K (.c (.o s.n)) ((s.dU l .gone).new (.sl et .u8 (xs++z.data.toList)))
    | none=>False) else False
   | _=>False
  | _=>False) else False
 | _,_,_=>False
def JO (X:Vx) (b:Bs) (s:Ov) (t t2:TypeId) (x y:Cl) (K:SV->Ov->Prop):Prop:=match Nr X t with
 | none=>False
 | some (et,e,ie)=>if Nat.beq t t2 then (XN b s e y λys=>match x with
   | .k (.slice none 0 0)=>if TT X et e then ys.length*ie.bytes<=140737488355328/\K (.c (.o s.n)) (s.new (.sl et e ys)) else False
   | .o l=>match b.obj s l with
    | .sl Ou _ xs=>if Nat.beq Ou et then (match zk e xs with
     | some xs=>if TT X et e then (xs.length+ys.length)*ie.bytes<=140737488355328/\xs.length+ys.length<=9223372036854775807/\K (.c (.o s.n)) ((s.dU l .gone).new (.sl et e (xs++ys))) else False
     | none=>False) else False
    | _=>False
   | _=>False) else JP X b s t t2 x y K
def Ad (place:Nat->Option (Nat×Nat)):List Cl->List (Nat×S1)->Option (List Cl)
 | cs,[]=>some cs
 | cs,(i,v)::r=>match place i with
  | none=>none
  | some (off,size)=>if Nat.beq v.cells.length size then (if Nat.ble (off+size) cs.length then Ad place (LP cs off v.cells) r else none) else none
def sQ (b:Bs) (s:Ov):List (Nat×Operand)->Option (List (Nat×S1))
 | []=>some []
 | (i,x)::r=>match fg b s x with
  | some (.v v)=>match sQ b s r with
   | some l=>some ((i,v)::l)
   | none=>none
  | _=>none
def vU (P:Program) (t:TypeId) (ps:List (Nat×S1)) (K:SV->Prop):Prop:=match oc P t with
 | none=>False
 | some z=>match P.underlying t with
  | some (.struct fs)=>match fs.toList.mapM λf=>(P.info? f.type).map λi=>(f.offset,i.size) with
   | some places=>match Ad (λi=>places.toArray[i]?) z ps with
    | some cs=>K (.v (.agg cs))
    | none=>False
   | none=>False
  | some (.array _ e)=>match P.info? e with
   | some ie=>match Ad (λi=>some (i*ie.size,ie.size)) z ps with
    | some cs=>K (.v (.agg cs))
    | none=>False
   | none=>False
  | _=>False
def Dy (X:Vx) (s:Ov) (t:TypeId) (n:Nat) (ps:List (Nat×S1)) (K:SV->Ov->Prop):Prop:=match X.P.underlying t with
 | some (.slice et)=>match X.P.info? et,oc X.P et with
  | some ie,some z=>if Nat.ble (n*ie.size) 16777216&& (gx 0 ie.size&& gx 0 n)&& Nat.beq z.length ie.size then (match Ad (λi=>some (i*ie.size,ie.size)) (au n z).flatten ps with
   | none=>False
   | some cs=>K (.c (.sc s.n 0 n)) (s.new (.cells et cs))) else False
  | _,_=>False
 | _=>False
def tk (X:Vx) (b:Bs) (s:Ov) (t:TypeId) (n:Nat) (ps:List (Nat×S1)) (K:SV->Ov->Prop):Prop:=match Nr X t with
 | none=>Dy X s t n ps K
 | some (et,e,ie)=>match oc X.P et with
  | none=>False
  | some z=>if Nat.ble (n*ie.size) 16777216&& (gx 0 ie.size|| Nat.beq n 0)&& Nat.beq z.length ie.size then (match Ad (λi=>some (i*ie.size,ie.size)) (au n z).flatten ps with
   | none=>False
   | some cs=>k8 b cs s λxK s'=>match MF e n xK with
    | some xs=>K (.c (.o s'.n)) (s'.new (.sl et e xs))
    | none=>False) else False
def adC (X:Vx) (b:Bs) (s:Ov) (src dst e:TypeId) (l:Nat) (K:SV->Ov->Prop):Prop:=if Nat.beq src dst then (match X.P.underlying e with
 | some (.int .u8)=>match b.obj s l with
  | .sl et _ xs=>if Nat.beq et e then (match zk .u8 xs with
   | some ys=>ys≠ []/\K (.c (.d .u8 ys)) (s.dU l .gone)
   | none=>False) else False
  | _=>False
 | _=>False) else False
def widens:IntKind->IntKind->Bool
 | .u8,.i64| .u8,.u32| .u32,.i64| .i32,.i64=>true
 | _,_=>false
theorem Es {k' k:IntKind} {n:Int} (h:widens k' k=true) (hn:aI k' n):aI k n:=by
 cases k'<;>cases k<;>first| (cases h;done)| (unfold aI at hn ⊢;omega)
def oQ (X:Vx) (b:Bs) (s:Ov) (src dst:TypeId) (x:SV) (K:SV->Ov->Prop):Prop:=match X.P.underlying src,X.P.underlying dst,x with
 | some (.int _),some (.int k),.v (.c (.k (.int k' n)))=>if IntKind.beq k k' then K x s else if widens k' k then K (.k (.int k n)) s else (aI k (k.wrap n)->K (.k (.int k (k.wrap n))) s)
 | some .string,some .string,.v (.c (.k (.string _)))=>K x s
 | some (.int _),some .string,.v (.c (.k (.int _ n)))=>(Utf8.encode n).size<=9223372036854775807/\K (.str (Utf8.encode n)) s
 | some .string,some (.slice e),.v (.c (.k (.string z)))=>match X.P.underlying e with
  | some (.int .u8)=>K (.c (.d .u8 z.data.toList)) s
  | _=>False
 | some (.slice e),some .string,.v (.c y)=>match X.P.underlying e with
  | some (.int .u8)=>match sU b s .u8 y with
   | some l=>K (.str (gk l)) s
   | none=>False
  | _=>False
 | some (.slice _),some (.slice e),.v (.c (.o l))=>adC X b s src dst e l K
 | _,_,_=>False
def kB:Nat->Ty
 | 0=>.unit
 | n+1=>.pair .u8 (kB n)
def rowOf (ys:List UInt8):(n i:Nat)->(kB n).den
 | 0,_=>()
 | n+1,i=>(ys.getD i 0,rowOf ys n (i+1))
def JN (P:Program) (t:TypeId) (x:Cl) (K:SV->Prop):Prop:=match P.underlying t,x with
 | some (.array n _),.d e xs=>(match zk .u8 xs with
  | some ys=>if gx 0 n&& Nat.ble n 8 then n<=ys.length/\K (.c (.de (kB n) [rowOf ys n 0] 0 0)) else False
  | none=>False)
 | _,_=>False
def HH (P:Program) (t:TypeId) (x:Cl) (lo hi:Option Int) (m:Int) (K:SV->Prop):Prop:=match P.underlying t,x,hi with
 | some (.slice et),.d e xs,some h=>(match P.info? et with
  | some ie=>if Nat.beq e.size ie.size then 0<=cq lo 0/\cq lo 0<=h/\h<=m/\m<=xs.length/\K (.c (.d e ((xs.drop (cq lo 0).toNat).take (h.toNat - (cq lo 0).toNat)))) else False
  | none=>False)
 | _,_,_=>False
def mmV (mn:Bool) (x y:SV) (K:SV->Prop):Prop:=match x,y with
 | .v (.c (.k (.int k m))),.v (.c (.k (.int k' n)))=>if IntKind.beq k k' then (match mn with| true=>K (.k (.int k (min m n)))| false=>K (.k (.int k (max m n)))) else False
 | _,_=>False
def ah3 (P:Program) (t:TypeId):Option Kk:=match P.underlying t with
 | some (.int .i64)=>some .int
 | some .string=>some .str
 | _=>none
def dTy (X:Vx) (t:TypeId):Option Ty:=match X.P.underlying t with
 | some (.int k)=>some (.int k)
 | some .string=>some .str
 | some .bool=>some .bool
 | _=>Gq X.ty t
def zOk (e:Ty) (z:Value):Bool:=match z with
 | .agg _=>e.row
 | v=> !e.row&& v.oneCell'
def aiM (P:Program) (t:TypeId) (e:Ty):Option e.den:=match P.info? t with
 | some i=>match i.zero with
  | some z=>if zOk e z then (match uf z.cells.toList with
   | some zl=>match e.of zl with
    | some (x,[])=>some x
    | _=>none
   | none=>none) else none
  | none=>none
 | none=>none
def w8:(k:Kk)->Cl->Option k.den
 | .int,c=>match c with
  | .k (.int .i64 n)=>some n
  | _=>none
 | .str,c=>match c with
  | .k (.string z)=>some z
  | _=>none
def ahM (e:Ty) (x:e.den):Option S1:=if e.row then some (.agg (e.cells x)) else match e.cells x with
 | [c]=>some (.c c)
 | _=>none
def akR (e:Ty):S1->Bool
 | .agg _=>e.row
 | .c _=> !e.row
def IY (P:Program) (t:TypeId):Bool:=match P.info? t with
 | some i=>match i.zero with
  | some (.pointer none)=>true
  | _=>false
 | none=>false
def X9 (u:S1) (cs:List Cl):S1:=match u,cs with
 | .c _,[d]=>.c d
 | _,_=>.agg cs
def TP (M:uC) (o:Option (Nat×Value)) (key:K3) (ys:List Int):uC:=match o with
 | some (i,v)=>M.set i (key,v,ys)
 | none=>M
def aaA:HK->HO->Option HO
 | .ch kt tI M o key none,.sl t _ xs=>if Nat.beq t tI then (match zk (.int .i64) xs with
  | some ys=>some (.ab (.ch kt tI (TP M o key ys)))
  | none=>none) else none
 | .pm kt tR e M i key bb,.cells t cs=>if Nat.beq t tR then (match e.of cs with
  | some (x,[])=>some (.ab (.pm kt tR e (M.set i (key,bb,x))))
  | _=>none) else none
 | _,_=>none
def Qn (b:Bs) (s:Ov) (l:Nat):Ov:=match b.obj s l with
 | .qk k n=>if Nat.beq n l then s else (match aaA k (b.obj s n) with
  | some o'=>(s.dU n .gone).dU l o'
  | none=>s)
 | _=>s
def Qo (b:Bs):List Nat->Ov->Ov
 | [],s=>s
 | l::r,s=>Qo b r (Qn b s l)
def Dg (c:Bool) (b:Bs) (s:Ov):Ov:=match c with
 | true=>Qo b (bP s.n) s
 | false=>s
def adG:List Cl->Option K3
 | [.k (.int .u8 x),.k (.int .u8 y),.k (.int .u8 z)]=>some (ax x.toNat,ax y.toNat,ax z.toNat)
 | _=>none
inductive FindM (M:uC) (key:K3):Option (Nat×Value)->List Int->Prop
 | at (i:Nat) (v:Value) (xs:List Int) (h:M[i]?=some (key,v,xs)):FindM M key (some (i,v)) xs
 | no (h:∀ p∈M,p.1≠key):FindM M key none []
def HI (P:Program) (t tI:TypeId):Bool:=match P.underlying t,P.info? t with
 | some (.slice q),some i=>Nat.beq q tI&& (match i.zero with
  | some (.slice none 0 0)=>true
  | _=>false)
 | _,_=>false
def JC (X:Vx) (b:Bs) (s:Ov) (t:TypeId) (mx:Cl) (cs:List Cl) (K:SV->Ov->Prop):Prop:=match X.P.underlying t,mx with
 | some (.map k et),.m l=>match b.obj s l,adG cs with
  | .ab (.ch kt tI M),some key=>if Nat.beq k kt&& (w9 X.P k&& HI X.P et tI) then (∀ o xs,FindM M key o xs->K (.c (.o s.n)) ((s.dU l (.qk (.ch kt tI M o key none) s.n)).new (.sl tI (.int .i64) xs))) else False
  | _,_=>False
 | _,_=>False
def Qr (X:Vx) (b:Bs) (s:Ov) (t:TypeId) (mx:Cl) (cs:List Cl) (K:SV->Ov->Prop):Prop:=match X.P.underlying t,mx with
 | some (.map k et),.m l=>match b.obj s l,adG cs with
  | .ab (.ch kt tI M),some key=>if Nat.beq k kt&& (w9 X.P k&& HI X.P et tI) then (M.length< 9223372036854775807/\∀ o xs (st:Nat),FindM M key o xs->K (.cZ [.c (.o s.n),.c (.kl l (.int .i64 st))]) ((s.dU l (.qk (.ch kt tI M o key (some st)) s.n)).new (.sl tI (.int .i64) xs))) else False
  | _,_=>False
 | _,_=>False
def HY (M:uC) (o:Option (Nat×Value)):uC:=match o with
 | some (i,_)=>M.eraseIdx i
 | none=>M
def Qq (P:Program) (b:Bs) (s:Ov) (t:TypeId) (l:Nat) (st:Cl) (u:S1) (K:Ov->Prop):Prop:=match b.obj s l,st,u with
 | .qk (.ch kt tI M o key (some n)) _,.kl _ (.int .i64 x),.c (.o q)=>(match b.obj s q,P.underlying t with
  | .sl t' _ xs,some (.map k _)=>if Nat.beq t' tI&& (!Nat.beq q l&& (Nat.beq k kt&& w9 P k)) then (match zk (.int .i64) xs with
   | some ys=>x=n/\∀ v,K ((s.dU q .gone).dU l (.ab (.ch kt tI ((key,v,ys)::HY M o))))
   | none=>False) else False
  | _,_=>False)
 | _,_,_=>False
def II (X:Vx) (s:Ov) (t:TypeId) (l:Nat) (kt tR:TypeId) (e:Ty) (M:List (Int×Nat×e.den)) (ky:Cl) (K:SV->Ov->Prop):Prop:=match X.P.underlying t,ky with
 | some (.map k et),.k (.int .i64 q)=>if Nat.beq k kt&& (j7 X.P k .int&& IY X.P et) then
   ((∀ p∈M,p.1≠q)->K (.cZ [.c (.k (.pointer none)),.c (.k (.bool false))]) s)/\
   ∀ (i bb:Nat) (x:e.den),M[i]?=some (q,bb,x)->e.ok x->K (.cZ [.c (.p s.n 0),.c (.k (.bool true))]) ((s.dU l (.qk (.pm kt tR e M i q bb) s.n)).new (.cells tR (e.cells x)))
  else False
 | _,_=>False
def Pp (X:Vx) (b:Bs) (s:Ov) (t:TypeId) (l:Nat) (kt tR:TypeId) (e:Ty) (M:List (Int×Nat×e.den)) (ky:Cl) (u:S1) (K:Ov->Prop):Prop:=match X.P.underlying t,ky,u with
 | some (.map k _),.k (.int .i64 q),.c (.p n 0)=>(match b.obj s n with
  | .cells tR' _=>if Nat.beq k kt&& (j7 X.P k .int&& (Nat.beq tR' tR&& !Nat.beq n l)) then
    (∀ p∈M,p.1≠q)/\M.length< 9223372036854775807/\∀ bb,K (s.dU l (.qk (.pm kt tR e ((q,bb,e.Nu)::M) 0 q bb) n))
   else False
  | _=>False)
 | _,_,_=>False
structure PmR where
 kt:TypeId
 tR:TypeId
 e:Ty
 M:List (Int×Nat×e.den)
def BO (P:Program) (b:Bs) (s:Ov) (t:TypeId) (l sz:Nat) (i:Int) (off q:Nat) (K:Ov->Prop):Prop:=match P.info? t,b.obj s l,b.obj s q with
 | some ie,.sl u e xs,.sl .. =>if Nat.beq ie.size 1&& (Nat.beq e.size sz&& (gx off e.size&& !Nat.beq q l)) then (0<=i/\i< xs.length/\K (s.dU l (.qk (.sf u e xs i off) q))) else False
 | _,_,_=>False
def Qp (b:Bs) (s:Ov) (l:Nat):Ov:=match b.obj s l with
 | .qk (.sf t e xs i off) n=>if Nat.beq n l then s else (match b.obj s n with
  | .sl t' e' ys=>(match e.of ((e.cells (aB e xs i)).set off (.d e' ys)) with
   | some (x',[])=>(s.dU n (.held t' e' ys)).dU l (.sl t e (xs.set i.toNat x'))
   | _=>s)
  | _=>s)
 | _=>s
def JB (b:Bs):List Nat->Ov->Ov
 | [],s=>s
 | l::r,s=>JB b r (Qp b s l)
def ZL (c:Bool) (b:Bs) (s:Ov):Ov:=match c with
 | true=>JB b (bP s.n) s
 | false=>s
def adl (b:Bs) (s:Ov):Cl->Option (Nat×PmR)
 | .m l=>match b.obj s l with
  | .ab (.pm kt tR e M)=>some (l,⟨kt,tR,e,M⟩)
  | _=>none
 | _=>none
def YP:List (Nat×Nat×Ty)->Nat->Option (Nat×Ty)
 | [],_=>none
 | (k,v)::s,t=>bif Nat.beq k t then some v else YP s t
def I0 (X:Vx) (b:Bs) (s:Ov) (t:TypeId) (mx ky:Cl) (c:Bool) (K:SV->Prop):Prop:=match X.P.underlying t with
 | some (.map k et)=>match mx with
  | .m l=>match b.obj s l with
   | .map k' kk e xs=>if Nat.beq k k'&& j7 X.P k kk then (match aiM X.P et e,w8 kk ky with
    | some z,some q=>match ahM e ((kk.get xs q).getD z) with
     | some r=>e.ok ((kk.get xs q).getD z)->K (if c then .cZ [r,.c (.k (.bool (kk.get xs q).isSome))] else .v r)
     | none=>False
    | _,_=>False) else False
   | _=>False
  | _=>False
 | _=>False
def wU (X:Vx) (b:Bs) (s:Ov) (t:TypeId) (mx ky:Cl) (v:S1) (K:Ov->Prop):Prop:=match X.P.underlying t with
 | some (.map k _)=>match mx with
  | .m l=>k8 b v.cells s λcs s1=>match b.obj s1 l with
   | .map k' kk e xs=>if Nat.beq k k'&& j7 X.P k kk&& akR e v then (match w8 kk ky,e.of cs with
    | some q,some (x,[])=>xs.length< 9223372036854775807/\K (s1.dU l (.map k' kk e (kk.put xs q x)))
    | _,_=>False) else False
   | _=>False
  | _=>False
 | _=>False
def CK (X:Vx) (s:Ov) (t:TypeId) (K:SV->Ov->Prop):Prop:=match X.P.underlying t with
 | some (.map k et)=>match ah3 X.P k,dTy X et with
  | some kk,some e=>K (.c (.m s.n)) (s.new (.map k kk e []))
  | _,_=>(match w9 X.P k,X.P.underlying et with
    | true,some (.slice q)=>K (.c (.m s.n)) (s.new (.ab (.ch k q [])))
    | _,_=>match YP X.pmT t with
     | some (tR,e)=>if j7 X.P k .int then K (.c (.m s.n)) (s.new (.ab (.pm k tR e []))) else False
     | none=>False)
 | _=>False
def zeroV (P:Program) (t:TypeId):Option SV:=match P.info? t with
 | some i=>match i.zero with
  | some z=>JA z
  | none=>none
 | none=>none
def PT (P:Program) (t:TypeId) (c:Cl) (K:SV->Prop):Prop:=match P.underlying t with
 | some (.interface _)=>False
 | some _=>K (.c (.DP t c))
 | none=>False
def JL (P:Program) (t:TypeId) (c:Cl) (K:SV->Prop):Prop:=match P.underlying t with
 | some (.interface _)=>False
 | some _=>match c with
  | .DP t' c'=>if Nat.beq t' t then K (.cZ [.c c',.c (.k (.bool true))]) else (match zeroV P t with
   | some (.v z)=>K (.cZ [z,.c (.k (.bool false))])
   | _=>False)
  | .k .nilIface=>match zeroV P t with
   | some (.v z)=>K (.cZ [z,.c (.k (.bool false))])
   | _=>False
  | _=>False
 | none=>False
def JM (P:Program) (t:TypeId) (c:Cl) (K:SV->Prop):Prop:=match P.underlying t with
 | some (.interface _)=>False
 | some _=>match c with
  | .DP t' c'=>if Nat.beq t' t then K (.c c') else False
  | _=>False
 | none=>False
def O3 (X:Vx) (b:Bs) (s:Ov) (t:TypeId) (c:Cl) (K:SV->Ov->Prop):Prop:=match X.P.underlying t,c with
 | some .string,.k (.string z)=>K (.c (.p s.n 0)) (s.new (.ab (.iter z 0)))
 | some (.map k _),.m l=>match b.obj s l with
  | .ab (.pm kt tR e M)=>if Nat.beq k kt&& j7 X.P k .int then ∀ hz mb,K (.c (.p s.n 0)) ((s.dU l (.ab (.pz kt tR e M hz mb))).new (.ab (.Pr kt l e hz mb M none))) else False
  | _=>False
 | _,_=>False
def YI (b:Bs) (s:Ov) (c:Cl) (K:SV->Ov->Prop):Prop:=match c with
 | .p l 0=>match b.obj s l with
  | .ab (.iter z p)=>br (decide (p< z.size)) (K (.cZ [.c (.k (.bool true)),.c (.k (.int .i64 p)),.c (.k (.int .i32 (Utf8.decode z p).1))]) (s.dU l (.ab (.iter z (p+(Utf8.decode z p).2))))) (K (.cZ [.c (.k (.bool false))]) s)
  | _=>False
 | _=>False
def YJ (P:Program) (b:Bs) (s:Ov) (c:Cl) (K:SV->Ov->Prop):Prop:=match c with
 | .p li 0=>match b.obj s li with
  | .ab (.Pr kt l e hz mb left _)=>match b.obj s l with
   | .ab (.pz kt' _ _ _ SR Ol)=>if Nat.beq kt kt'&& j7 P kt .int then SR=hz/\Ol=mb/\(left= []->K (.cZ [.c (.k (.bool false))]) s)/\
     ∀ x bb y mG,left.Perm ((x,bb,y)::mG)->aI .i64 x->K (.cZ [.c (.k (.bool true)),.c (.k (.int .i64 x)),.c (.kl l (.pointer (some ⟨bb,0,none⟩)))]) (s.dU li (.ab (.Pr kt l e hz mb mG (some (x,bb,y))))) else False
   | _=>False
  | _=>False
 | _=>False
def Qd (P:Program) (b:Bs) (s:Ov) (c:Cl) (K:SV->Prop):Prop:=match c with
 | .p li 0=>match b.obj s li with
  | .ab (.Pr kt l _ hz mb _ cur)=>match b.obj s l with
   | .ab (.pz kt' _ _ _ SR Ol)=>if Nat.beq kt kt'&& j7 P kt .int then ∃ x bb y,SR=hz/\Ol=mb/\cur=some (x,bb,y)/\(aI .i64 x->K (.cZ [.c (.k (.int .i64 x)),.c (.kl l (.pointer (some ⟨bb,0,none⟩)))])) else False
   | _=>False
  | _=>False
 | _=>False
def pK (k:IntKind):Nat->List Cl->Bool
 | 0,[]=>true
 | n+1,.k (.int k' 0)::r=>IntKind.beq k' k&& pK k n r
 | _,_=>false
def zm (P:Program) (b:Bs) (s:Ov) (t:TypeId) (x:Cl) (k:IntKind) (l:List Int) (K:Ov->Prop):Prop:=match L9 P t,x with
 | some (n,k'),.oe lb sz i 0=>(match b.obj s lb with
  | .sl u e xs=>if IntKind.beq k k'&& (Nat.beq sz 1&& Nat.beq u t) then (match zk (.int k) xs with
   | some ys=>i=0/\ys.length=n/\l.length=n/\K (s.dU lb (.sl u (.int k) l))
   | none=>False) else False
  | _=>False)
 | _,_=>False
def vF (X:Vx) (s:Ov) (t:TypeId) (c d:Cl) (K:SV->Ov->Prop):Prop:=match X.P.underlying t,c,d with
 | some (.slice et),.k (.int .i64 n),.k (.int .i64 m)=>if MV X et then n=m/\0<=n/\n<=140737488355328/\(match X.mkd with
  | true=>K (.c (.o s.n)) (s.new (.held et .u8 (au n.toNat 0)))
  | false=>K (.c (.o s.n)) (s.new (.sl et .u8 (au n.toNat 0)))) else False
 | _,_,_=>False
def isConst:Operand->Bool
 | .const _=>true
 | _=>false
def qu (b:Bs) (s:Ov) (x:Operand) (k:SV->Prop):Prop:=match fg b s x with
 | some v=>k v
 | none=>False
def nO (b:Bs) (s:Ov) (x:Operand) (k:Cl->Prop):Prop:=match fg b s x with
 | some (.v (.c c))=>k c
 | _=>False
def wM (b:Bs) (s:Ov) (q:Option Operand) (k:Option SV->Prop):Prop:=match q with
 | none=>k none
 | some y=>qu b s y λv=>k (some v)
def JD:List SV->Option (List Cl)
 | []=>some []
 | .v (.c c)::r=>match JD r with
  | some q=>some (c::q)
  | none=>none
 | _=>none
def vS:(off n j:Nat)->List Cl->List ByteArray->Option (List Cl)
 | 0,0,_,cs,_=>some cs
 | 0,n+1,j,c::r,ys=>match c with
  | .k (.string z)=>match vS 0 n (j+1) r ys with
   | some l=>some (.k (.string ((ys[j]?).getD z))::l)
   | none=>none
  | _=>none
 | off+1,n,j,c::r,ys=>match vS off n j r ys with
  | some l=>some (c::l)
  | none=>none
 | _,_,_,[],_=>none
def copyV (X:Vx) (b:Bs) (s:Ov) (t t2:TypeId) (x y:Cl) (K:SV->Ov->Prop):Prop:=match X.P.underlying t,x with
 | some (.slice et),.sc l off n=>if Nat.beq t t2 then (match X.P.info? et,sU b s .str y,b.obj s l with
  | some ie,some ys,.cells u cs=>if Nat.beq ie.size 1 then (match vS off n 0 cs ys with
   | some xK=>n<=9223372036854775807/\K (.int (min ys.length n:Nat)) (s.dU l (.cells u xK))
   | none=>False) else False
  | _,_,_=>False) else False
 | some (.slice et),.o l=>if Nat.beq t t2&& MV X et then (match b.obj s l with
  | .sl Ou _ xs=>if Nat.beq Ou et then (match zk .u8 xs with
   | some xs=>XN b s .u8 y λys=>K (.int (min ys.length xs.length:Nat)) (s.dU l (.sl et .u8 (l5 xs 0 ys)))
   | none=>False) else False
  | _=>False) else False
 | some (.slice et),.os l sz lo hi=>if Nat.beq t t2&& (MV X et&& Nat.beq sz 1) then (match b.obj s l with
  | .sl Ou _ xs=>if Nat.beq Ou et then (match zk .u8 xs with
   | some xs=>0<=lo/\lo<=xs.length/\hi=xs.length/\XN b s .u8 y λys=>K (.int (min ys.length (xs.length - lo.toNat):Nat)) (s.dU l (.sl et .u8 (l5 xs lo.toNat ys)))
   | none=>False) else False
  | _=>False) else False
 | _,_=>False
def pM (X:Vx) (b:Bs) (s:Ov) (bi:Builtin) (args:List SV) (ts:List TypeId) (K:SV->Ov->Prop):Prop:=match bi with
 | .len=>match args,ts with
  | [.v (.c x)],[t]=>Eb X.P b s t x λr=>K r s
  | _,_=>False
 | .append=>match args,ts with
  | [.v (.c x),.v (.c y)],[t,t2]=>JO X b s t t2 x y K
  | _,_=>False
 | .copy=>match args,ts with
  | [.v (.c x),.v (.c y)],[t,t2]=>copyV X b s t t2 x y K
  | _,_=>False
 | .min=>match args,ts with
  | [x,y],[_,_]=>mmV true x y λr=>K r s
  | _,_=>False
 | .max=>match args,ts with
  | [x,y],[_,_]=>mmV false x y λr=>K r s
  | _,_=>False
 | _=>False
def Sy (P:Program) (t:TypeId) (name:String):Option FuncId:=match P.info? t with
 | some ti=>match ti.methods.find? (·.name==name) with
  | some m=>if m.path.isEmpty then (match m.func,P.underlying t with
   | some (f,true),some (.pointer _)=>some f
   | _,_=>none) else none
  | none=>none
 | none=>none
def BE (X:Vx) (b:Bs) (s:Ov) (c:Call) (K:SV->Ov->Prop):Prop:=match Aw b s c.args.toList with
 | none=>False
 | some args=>match c.callee with
  | .value f=>nO b s f λq=>match q with
   | .fn f caps=>if qV X.P f then (if ir f X.hold then vL b (args++caps.map .c) s λvs s=>Dk (zU X.ct) b s f vs K else if ir f X.ro then Tl (zU X.ct) b s f (args++caps.map .c) K else Dk (zU X.ct) b s f (args++caps.map .c) K) else False
   | _=>False
  | .builtin bi=>pM X b s bi args c.argTypes.toList K
  | .invoke ro name=>nO b s ro λq=>match q with
   | .DP t r=>(match Sy X.P t name with
    | some f=>if qV X.P f then (if ir f X.ro then Tl (zU X.ct) b s f (.v (.c r)::args) K else Dk (zU X.ct) b s f (.v (.c r)::args) K) else False
    | none=>False)
   | _=>False
def Lv (X:Vx) (b:Bs) (s:Ov) (o:Oper) (K:SV->Ov->Prop):Prop:=match o.op with
  | .move x| .assign x=>qu b s x λv=>K v s
  | .pick c x y=>nO b s c λc=>qu b s x λv=>qu b s y λu=>match c with
    | .k (.bool q)=>br q (K v s) (K u s)
    | _=>False
  | .binOp op t x y _=>qu b s x λv=>qu b s y λu=>El X.wrap X.P b s (isConst x|| isConst y) op t v u λr=>K r s
  | .unOp op _ x=>qu b s x λv=>unV X.wrap op v λr=>K r s
  | .extract x i=>qu b s x λv=>match v with
    | .cZ l=>match l[i]? with
      | some c=>K (.v c) s
      | none=>False
    | _=>False
  | .field t x j=>qu b s x λv=>match v with
    | .v (.agg l)=>match ud X.P t j with
      | some f=>match pY X.P f.type l f.offset with
        | some r=>K (.v r) s
        | none=>False
      | none=>False
    | _=>False
  | .load t x=>nO b s x λc=>sS X.P b s t c λr=>K r s
  | .store t x y=>nO b s x λc=>qu b s y λu=>match u with
    | .v u=>match c with
      | .oe lb sz i off=>match X.sfh,u with
        | true,.c (.o q)=>BO X.P b s t lb sz i off q λs'=>K .tH s'
        | _,_=>k8 b u.cells s λcs s1=>BI X.P b s1 t c (X9 u cs) λs'=>K .tH s'
      | _=>BI X.P b s t c u λs'=>K .tH s'
    | .arr k l=>zm X.P b s t c k l λs'=>K .tH s'
    | _=>False
  | .alloc t=>match oc X.P t with
    | some z=>match L9 X.P t with
     | some (n,k)=>if pK k n z then K (.c (.oe s.n 1 0 0)) (s.new (.sl t (.int k) (au n 0))) else False
     | none=>K (.c (.p s.n 0)) (s.new (.cells t z))
    | none=>False
  | .box t x=>qu b s x λv=>match v with
    | .v v=>K (.c (.p s.n 0)) (s.new (.cells t v.cells))
    | .arr k l=>(match L9 X.P t with
      | some (n,k')=>if IntKind.beq k k' then (l.length=n/\K (.c (.oe s.n 1 0 0)) (s.new (.sl t (.int k) l))) else False
      | none=>False)
    | _=>False
  | .nilCheck x=>nO b s x λc=>match c with
    | .p l off=>K (.c (.p l off)) s
    | .de e y i off=>K (.c (.de e y i off)) s
    | .oe l sz i off=>K (.c (.oe l sz i off)) s
    | .kl l (.pointer (some q))=>K (.c (.kl l (.pointer (some q)))) s
    | _=>False
  | .fieldAddr t x j=>nO b s x λc=>match ud X.P t j with
    | some f=>match X.P.info? f.type with
      | some ie=>if gx 0 ie.size then (match aaI c f.offset with
        | some c'=>K (.c c') s
        | none=>False) else False
      | none=>False
    | none=>False
  | .indexAddr t x i=>nO b s x λc=>nO b s i λq=>match q with
    | .k (.int _ n)=>iv X.P b s t c n λr=>K r s
    | _=>False
  | .index t x i=>nO b s x λc=>nO b s i λq=>match X.P.underlying t,c,q with
    | some .string,.k (.string z),.k (.int _ n)=>0<=n/\n< z.size/\K (.k (.int .u8 ((iV z n).toNat:Int))) s
    | _,_,_=>False
  | .slice t x lo hi none=>nO b s x λc=>wM b s lo λl=>wM b s hi λh=>match intOf l,intOf h with
    | some l,some h=>px X.P b s t c l h λr=>K r s
    | _,_=>False
  | .slice t x lo hi (some y)=>nO b s x λc=>wM b s lo λl=>wM b s hi λh=>nO b s y λq=>match intOf l,intOf h,q with
    | some l,some h,.k (.int .i64 m)=>HH X.P t c l h m λr=>K r s
    | _,_,_=>False
  | .sliceToArrayPointer t x=>nO b s x λc=>JN X.P t c λr=>K r s
  | .build t ps=>match sQ b s ps.toList with
    | some l=>vU X.P t l λr=>K r s
    | none=>False
  | .buildSlice t n ps=>match sQ b s ps.toList with
    | some l=>tk X b s t n l K
    | none=>False
  | .convert src dst x=>qu b s x λv=>oQ X b s src dst v K
  | .makeFunc (.func f) first captured=>if first.isEmpty then (match Aw b s captured.toList with
    | some l=>match JD l with
      | some cs=>K (.c (.fn f cs)) s
      | none=>False
    | none=>False) else False
  | .makeInterface t x=>nO b s x λc=>PT X.P t c λr=>K r s
  | .typeAssert x _ t true=>nO b s x λc=>JL X.P t c λr=>K r s
  | .typeAssert x _ t false=>nO b s x λc=>JM X.P t c λr=>K r s
  | .makeMap t none=>CK X s t K
  | .lookup t x y c=>nO b s x λmx=>qu b s y λky=>match ky with
    | .v (.c ky)=>(match adl b s mx with
      | some (l,⟨kt,tR,e,M⟩)=>if c then II X s t l kt tR e M ky K else False
      | none=>I0 X b s t mx ky c λr=>K r s)
    | .v (.agg cs)=>if c then False else JC X b s t mx cs K
    | _=>False
  | .mapUpdate t x y z=>nO b s x λmx=>nO b s y λky=>qu b s z λu=>match u with
    | .v v=>(match adl b s mx with
      | some (l,⟨kt,tR,e,M⟩)=>Pp X b s t l kt tR e M ky v λs'=>K .tH s'
      | none=>wU X b s t mx ky v λs'=>K .tH s')
    | _=>False
  | .range t x=>nO b s x λc=>O3 X b s t c K
  | .next x true=>nO b s x λc=>YI b s c K
  | .next x false=>nO b s x λc=>YJ X.P b s c K
  | .entry x=>nO b s x λc=>Qd X.P b s c λr=>K r s
  | .makeSlice t x y=>nO b s x λc=>nO b s y λd=>vF X s t c d K
  | .mapEntry t x y=>nO b s x λmx=>qu b s y λky=>match ky with
    | .v (.agg cs)=>Qr X b s t mx cs K
    | _=>False
  | .entryStore t x y z=>nO b s x λmx=>nO b s y λst=>qu b s z λu=>match u with
    | .v v=>(match mx with
      | .m l=>Qq X.P b s t l st v λs'=>K .tH s'
      | _=>False)
    | _=>False
  | .insert t x y z=>nO b s x λmx=>nO b s y λky=>qu b s z λu=>match u with
    | .v v=>wU X b s t mx ky v λs'=>K .tH s'
    | _=>False
  | .call c=>BE X b s c K
  | _=>False
inductive Ex
 | normal| exit (id:Nat)| ret
def Et (ops:Array Oper) (b:Bs) (s:Ov) (o:Oper) (K:Bool->Ov->Prop):Prop:=match o.guard with
 | none=>K true s
 | some (j,w)=>match (ops[j]?).bind (·.dst) with
  | none=>False
  | some d=>match b.slot s d with
   | some (.v (.c (.k (.bool v))))=>br v (K (true==w) (s.put (some d) (.bool true))) (K (false==w) (s.put (some d) (.bool false)))
   | some (.cZ _)=>K false s
   | _=>False
def OG (X:Vx) (n:Nat) (ops:Array Oper) (b:Bs) (s:Ov) (o:Oper) (K:Ov->Prop):Prop:=
 if (match o.dst with| some d=>gx d n| none=>true) then Et ops b s o λw s=>match w with
  | true=>Lv X b s o λv s'=>K (s'.put o.dst v)
  | false=>K (s.put o.dst .tH)
 else False
def ahs (X:Vx) (n:Nat) (ops:Array Oper) (b:Bs):List Oper->Ov->(Ov->Prop)->Prop
 | [],s,K=>K s
 | o::r,s,K=>OG X n ops b s o λs'=>ahs X n ops b r s' K
def CB (P:Program) (t:TypeId):Bool:=match P.underlying t with
 | some (.int _)| some .string| some .bool| some (.struct _)| some (.array _ _)=>true
 | _=>false
def lM (P:Program) (o:Oper):Bool:=o.dst.isSome&& (match o.op with
 | .move _| .assign _| .pick .. | .unOp .. | .extract .. | .field .. | .load .. | .nilCheck _| .fieldAddr .. | .indexAddr .. | .index .. | .build .. =>true
 | .slice _ _ _ _ none=>true
 | .binOp _ t _ _ _=>CB P t
 | .convert _ dst _=>(match P.underlying dst with
  | some .string| some (.int _)=>true
  | _=>false)
 | .call c=>(match c.callee with
  | .builtin .len=>true
  | _=>false)
 | _=>false)
def ji {α:Type}:List α->(List α->Prop)->Prop
 | [],k=>k []
 | a::l,k=>ji l λl'=>k (a::l')
def Jq:List Bool->(List Bool->Prop)->Prop
 | [],k=>k []
 | a::l,k=>Jq l λl'=>match a with
  | true=>k (true::l')
  | false=>k (false::l')
def dX:List Bool->Nat->Bool
 | [],_=>false
 | a::_,0=>a
 | _::r,i+1=>dX r i
def lz:List (List Bool)->Nat->List Bool
 | [],_=>[]
 | a::_,0=>a
 | _::r,i+1=>lz r i
def UM:Nat->List Bool->List Bool
 | 0,[]=>[true]
 | 0,_::r=>true::r
 | k+1,[]=>false::UM k []
 | k+1,a::r=>a::UM k r
def orB:List Bool->List Bool->List Bool
 | [],l=>l
 | a::r,[]=>a::r
 | a::r,b::q=>(a|| b)::orB r q
def U1 (acc:List (List Bool)):List Edge->List Bool
 | []=>[]
 | e::r=>match Region.binds .any e with
  | true=>orB (UM e.on (lz acc e.on)) (U1 acc r)
  | false=>U1 acc r
def X6:List Oper->List (List Bool)->(List (List Bool)->Prop)->Prop
 | [],acc,k=>k acc
 | o::r,acc,k=>Jq (U1 acc o.after.toList) λrow=>ji (acc++ [row]) λacc=>X6 r acc k
def Jy:List Bool->List Bool->Nat
 | p::ps,r::rs=>match r&& !p with
  | true=>Jy ps rs+1
  | false=>Jy ps rs
 | _,_=>0
def TR (pu:List Bool) (ms:List (List Bool)) (size J:Nat):List Nat:=(bP size).filter λi=>dX pu i&& Nat.beq (Jy pu (lz ms i)) J
def afh (pu:List Bool) (ms:List (List Bool)) (size:Nat):Nat->List Nat->List Nat
 | J,[]=>TR pu ms size J
 | J,n::r=>TR pu ms size J++n::afh pu ms size (J+1) r
def afg (pu:List Bool) (ms:List (List Bool)) (size:Nat):List Nat:=afh pu ms size 0 ((bP size).filter λi=> !dX pu i)
def ZD (ops:Array Oper) (k:Nat):Option Nat:=(ops[k]?).bind (·.dst)
def A6 (pu:List Bool) (ms:List (List Bool)):List Nat->List Nat->Bool
 | _,[]=>true
 | dn,i::r=>dn.all (λj=>dX pu j|| dX (lz ms i) j)&& A6 pu ms (i::dn) r
def isDst (ops:Array Oper) (k t:Nat):Bool:=match ZD ops k with
 | some d=>Nat.beq d t
 | none=>false
def ahQ (ops:Array Oper) (k:Nat):Bool:=match ZD ops k with
 | some d=>(bP k).any λi=>match ops[i]? with
  | some o=>ir d (slotsOf ops o)
  | none=>false
 | none=>false
def vC (P:Program) (ops:Array Oper) (k:Nat):Bool:=match ops[k]? with
 | some o=>lM P o&& !ahQ ops k
 | none=>false
def BM (ops:Array Oper) (pu:List Bool) (ms:List (List Bool)):Bool:=(bP ops.size).all λi=>match ops[i]? with
 | none=>true
 | some o=>(slotsOf ops o).all λt=>(bP ops.size).all λk=> !isDst ops k t|| (dX (lz ms i) k|| !dX pu k)
def tY (ops:Array Oper) (pu:List Bool) (ms:List (List Bool)):List Nat->Bool
 | []=>true
 | i::r=>(!dX pu i|| match ops[i]? with
  | none=>true
  | some o=>(slotsOf ops o).all λt=> !isDst ops i t&& r.all λk=> !isDst ops k t|| (!dX pu k&& dX (lz ms k) i))&& tY ops pu ms r
def Ys (ops:Array Oper) (pu:List Bool) (ms:List (List Bool)) (ord:List Nat):Bool:=
 ny ord&& ord.all (λi=>gx i ops.size)&& (bP ops.size).all (λi=>ir i ord)&& A6 pu ms [] ord&& BM ops pu ms&& tY ops pu ms ord
def Mj (b:Bs) (s:Ov) (o:Oper):List Nat:=o.op.operands.toList.flatMap λx=>match fg b s x with
 | some v=>v.labels
 | none=>[]
def vg (b:Bs) (s:Ov) (o:Oper):List Nat:=match o.op with
 | .move _| .assign _=>[]
 | _=>Mj b s o
def acS (X:Vx) (n:Nat) (ops:Array Oper) (b:Bs) (s:Ov) (o:Oper) (K:Ov->List Nat->Prop):Prop:=
 if (match o.dst with| some d=>gx d n| none=>true) then Et ops b s o λw s=>match w with
  | true=>Lv X {f:=s.f++b.f,h:=b.heap s} {f:=[],h:=[],n:=s.n} o λv s'=>match s'.f with
   | []=>K (({f:=s.f,h:=s'.h++s.h,n:=s'.n}:Ov).put o.dst v) (s'.h.map (·.1))
   | _=>False
  | false=>K (s.put o.dst .tH) []
 else False
def BC (X:Vx) (n:Nat) (ops:Array Oper) (b:Bs) (ms:List (List Bool)) (pu:List Bool):List Nat->List (Nat×List Nat)->Ov->(Ov->Prop)->Prop
 | [],_,s,K=>K s
 | i::r,lv,s,K=>match ops[i]? with
  | none=>False
  | some o=>match dX pu i with
   | true=>OG X n ops b s o λs'=>BC X n ops b ms pu r ((i,vg b s o)::lv) s' K
   | false=>acS X n ops b s o λs' ks=>ji (lv.filter λp=> !dX (lz ms i) p.1) λlv=>if lv.all (λp=>p.2.all λl=> !ir l ks) then BC X n ops b ms pu r lv s' K else False
def Vf (ms:List (List Bool)) (np dn:List Nat) (i:Nat):Bool:=np.all λj=> !dX (lz ms i) j|| ir j dn
def JR (pu:List Bool) (ms:List (List Bool)) (np:List Nat) (size:Nat):Nat->List Nat->List (List Nat)
 | 0,_=>[[]]
 | f+1,dn=>
  let ps:=(bP size).filter λi=>dX pu i&& (!ir i dn&& Vf ms np dn i)
  match np.filter λi=> !ir i dn&& Vf ms np dn i with
  | []=>[ps]
  | ns=>ns.flatMap λi=>(JR pu ms np size f (dn++ps++ [i])).map λr=>ps++i::r
def qZ (pu:List Bool):List Nat->Nat->Bool
 | [],_=>false
 | x::r,i=>Nat.beq x i|| (dX pu x&& qZ pu r i)
def BH:List Nat->List Nat->Option (List Nat)
 | [],r=>some r
 | _::_,[]=>none
 | a::l,b::r=>bif Nat.beq a b then BH l r else none
def xq (pu:List Bool) (ms:List (List Bool)) (np:List Nat) (os:List (List Nat)):List Nat->List Nat->Bool
 | _,[]=>true
 | dn,x::r=>((x::r).all λi=>qZ pu (x::r) i|| (!Vf ms np dn i|| os.any λo=>match BH dn o with
   | some q=>qZ pu q i
   | none=>false))&& xq pu ms np os (dn++ [x]) r
def QF (ops:Array Oper) (pu:List Bool) (ms:List (List Bool)) (np:List Nat) (os:List (List Nat)):Bool:=
 BM ops pu ms&& (!os.isEmpty&& os.all λord=>ny ord&& (ord.all (λi=>gx i ops.size)&& ((bP ops.size).all (λi=>ir i ord)&& (tY ops pu ms ord&& xq pu ms np os [] ord))))
def vM:List (List Nat)->List Nat
 | []=>[]
 | []::r=>vM r
 | (x::_)::r=>match ir x (vM r) with
  | true=>vM r
  | false=>x::vM r
def r6 (i:Nat):List (List Nat)->List (List Nat)
 | []=>[]
 | []::r=>r6 i r
 | (x::q)::r=>match Nat.beq x i with
  | true=>q::r6 i r
  | false=>r6 i r
def ajo:List Nat->(Nat->Prop)->Prop
 | [],_=>True
 | [x],p=>p x
 | x::y::r,p=>p x/\ajo (y::r) p
def qY:List (List Nat)->(List (List Nat)->Prop)->Prop
 | [],k=>k []
 | a::l,k=>ji a λa'=>qY l λl'=>k (a'::l')
def FC (X:Vx) (n:Nat) (ops:Array Oper) (b:Bs) (ms:List (List Bool)) (pu:List Bool):Nat->List (List Nat)->List (Nat×List Nat)->Ov->(Ov->Prop)->Prop
 | 0,_,_,s,K=>K s
 | f+1,os,lv,s,K=>ji (vM os) λhs=>ajo hs λi=>match ops[i]? with
  | none=>False
  | some o=>match dX pu i with
   | true=>OG X n ops b s o λs'=>qY (r6 i os) λos=>FC X n ops b ms pu f os ((i,vg b s o)::lv) s' K
   | false=>acS X n ops b s o λs' ks=>ji (lv.filter λp=> !dX (lz ms i) p.1) λlv=>if lv.all (λp=>p.2.all λl=> !ir l ks) then qY (r6 i os) λos=>FC X n ops b ms pu f os lv s' K else False
def wi (X:Vx) (n:Nat) (ops:Array Oper) (draw:Bool) (b:Bs) (s:Ov) (K:Ov->Prop):Prop:=
 if draw then
  if X.P.follows .mixedOrders&& Ju ops&& Qg ops n then
   Jq ((bP ops.size).map (vC X.P ops)) λpu=>X6 ops.toList [] λms=>ji (afg pu ms ops.size) λord=>
    if Ys ops pu ms ord then BC X n ops b ms pu ord [] s K
    else ji ((bP ops.size).filter λi=> !dX pu i) λnp=>qY (JR pu ms np ops.size ops.size []) λos=>
     if QF ops pu ms np os then FC X n ops b ms pu ops.size os [] s K else False
  else False
 else ahs X n ops b ops.toList s K
inductive Wu
 | iter
 | ch (kt tI:TypeId)
 | pm (kt tR:TypeId) (e:Ty)
 | Pr (kt:TypeId) (l:Nat) (e:Ty)
@[reducible] def Wu.den:Wu->Type
 | .iter=>ByteArray×Nat
 | .ch _ _=>uC
 | .pm _ _ e=>List (Int×Nat×e.den)
 | .Pr _ _ e=>Hp×Nat×List (Int×Nat×e.den)×Option (Int×Nat×e.den)
def Wu.mk:(t:Wu)->t.den->AbK
 | .iter,x=>.iter x.1 x.2
 | .ch kt tI,x=>.ch kt tI x
 | .pm kt tR e,x=>.pm kt tR e x
 | .Pr kt l e,x=>.Pr kt l e x.1 x.2.1 x.2.2.1 x.2.2.2
def ajn {e':Ty} (e:Ty) (x:List (Int×Nat×e'.den)):Option (List (Int×Nat×e.den)):=if h:e'.beq e=true then some (Ty.eq_of_beq h▸x) else none
def aaE {e':Ty} (e:Ty) (x:Hp×Nat×List (Int×Nat×e'.den)×Option (Int×Nat×e'.den)):Option (Hp×Nat×List (Int×Nat×e.den)×Option (Int×Nat×e.den)):=if h:e'.beq e=true then some (Ty.eq_of_beq h▸x) else none
def Wu.rd:(t:Wu)->AbK->Option t.den
 | .iter,k=>match k with
  | .iter z p=>some (z,p)
  | _=>none
 | .ch kt tI,k=>match k with
  | .ch a b M=>if Nat.beq a kt&& Nat.beq b tI then some M else none
  | _=>none
 | .pm kt tR e,k=>match k with
  | .pm a b e' M=>if Nat.beq a kt&& Nat.beq b tR then ajn e M else none
  | _=>none
 | .Pr kt l e,k=>match k with
  | .Pr kt' l' e' hz mb left cur=>if Nat.beq kt' kt&& Nat.beq l' l then aaE e (hz,mb,left,cur) else none
  | _=>none
theorem Wu.afa:∀ {t:Wu} {k:AbK} {x:t.den},t.rd k=some x->k=t.mk x:=by
 intro t k x h;cases t<;>cases k<;>first| (have h':none=some x:=h;cases h';done)| skip
 .obtain rfl:=aj h;rfl
 .rename_i kt tI a b M;have h:(if Nat.beq a kt&& Nat.beq b tI then some M else none)=some x:=h
  split at h
  .rename_i hc;simp only [ao] at hc;obtain rfl:=aj h;rw [ai hc.1,ai hc.2];rfl
  .cases h
 .rename_i kt tR e a b e' M;have h:(if Nat.beq a kt&& Nat.beq b tR then ajn e M else none)=some x:=h
  split at h
  .rename_i hc;simp only [ao] at hc;obtain rfl:=ai hc.1;obtain rfl:=ai hc.2;unfold ajn at h;split at h
   .rename_i hq;have SY:=Ty.eq_of_beq hq;subst SY;obtain rfl:=aj h;rfl
   .cases h
  .cases h
 .rename_i kt l e kt' l' e' hz mb left cur;have h:(if Nat.beq kt' kt&& Nat.beq l' l then aaE e (hz,mb,left,cur) else none)=some x:=h
  split at h
  .rename_i hc;simp only [ao] at hc;obtain rfl:=ai hc.1;obtain rfl:=ai hc.2;unfold aaE at h;split at h
   .rename_i hq;have SY:=Ty.eq_of_beq hq;subst SY;obtain rfl:=aj h;rfl
   .cases h
  .cases h
mutual
def Cl.same:Cl->Cl->Bool
 | .p l x,c=>match c with
  | .p l' x'=>Nat.beq l l'&& Nat.beq x x'
  | _=>false
 | .m l,c=>match c with
  | .m l'=>Nat.beq l l'
  | _=>false
 | .DP t x,c=>match c with
  | .DP t' x'=>Nat.beq t t'&& Cl.same x x'
  | _=>false
 | .fn f l,c=>match c with
  | .fn f' l'=>Nat.beq f f'&& Cl.FK l l'
  | _=>false
 | _,_=>false
def Cl.FK:List Cl->List Cl->Bool
 | [],c=>match c with
  | []=>true
  | _=>false
 | a::l,c=>match c with
  | b::r=>Cl.same a b&& Cl.FK l r
  | _=>false
end
mutual
theorem Cl.HN:∀ {a b:Cl},Cl.same a b=true->a=b
 | .p l x,c,h=>by
  cases c<;>simp only [Cl.same] at h<;>first| (cases h;done)| skip
  simp only [ao] at h;rw [ai h.1,ai h.2]
 | .m l,c,h=>by
  cases c<;>simp only [Cl.same] at h<;>first| (cases h;done)| skip
  rw [ai h]
 | .DP t x,c,h=>by
  cases c<;>simp only [Cl.same] at h<;>first| (cases h;done)| skip
  simp only [ao] at h;rw [ai h.1,Cl.HN h.2]
 | .fn f l,c,h=>by
  cases c<;>simp only [Cl.same] at h<;>first| (cases h;done)| skip
  simp only [ao] at h;rw [ai h.1,Cl.LR h.2]
 | .k _,_,h=>by simp [Cl.same] at h
 | .d _ _,_,h=>by simp [Cl.same] at h
 | .de _ _ _ _,_,h=>by simp [Cl.same] at h
 | .o _,_,h=>by simp [Cl.same] at h
 | .os _ _ _ _,_,h=>by simp [Cl.same] at h
 | .oe _ _ _ _,_,h=>by simp [Cl.same] at h
 | .sc _ _ _,_,h=>by simp [Cl.same] at h
 | .kl _ _,_,h=>by simp [Cl.same] at h
 | .JY,_,h=>by simp [Cl.same] at h
theorem Cl.LR:∀ {a b:List Cl},Cl.FK a b=true->a=b
 | [],c,h=>by
  cases c with
  | nil=>rfl
  | cons _ _=>simp [Cl.FK] at h
 | a::l,c,h=>by
  cases c with
  | nil=>simp [Cl.FK] at h
  | cons b r=>
   simp only [Cl.FK,ao] at h;rw [Cl.HN h.1,Cl.LR h.2]
end
inductive Sh
 | int (k:IntKind)| bool| str
 | d (e:Ty)
 | own (t:TypeId) (e:Ty)
 | p (l off:Nat)
 | m (l:Nat)
 | pa (t:Wu)
 | Jw (c:Cl)
 | dp (e:Ty)
@[reducible] def Sh.den:Sh->Type
 | .int _=>Int
 | .bool=>Bool
 | .str=>ByteArray
 | .d e=>List e.den
 | .own _ e=>List e.den
 | .p .. | .m _=>Unit
 | .pa t=>t.den
 | .Jw _=>Unit
 | .dp e=>List e.den
def Sh.mk:(h:Sh)->h.den->Nat->Cl×List HO
 | .int k,n,_=>(.k (.int k n),[])
 | .bool,v,_=>(.k (.bool v),[])
 | .str,z,_=>(.k (.string z),[])
 | .d e,x,_=>(.d e x,[])
 | .own t e,x,n=>(.o n,[.sl t e x])
 | .p l off,_,_=>(.p l off,[])
 | .m l,_,_=>(.m l,[])
 | .pa t,x,n=>(.p n 0,[.ab (t.mk x)])
 | .Jw c,_,_=>(c,[])
 | .dp e,x,_=>(.de e x 0 0,[])
def Sh.rd (b:Bs) (s:Ov):(h:Sh)->Cl->Option (h.den×List Nat)
 | .int k,c=>match c with
  | .k (.int k' n)=>if IntKind.beq k' k then some (n,[]) else none
  | _=>none
 | .bool,c=>match c with
  | .k (.bool v)=>some (v,[])
  | _=>none
 | .str,c=>match c with
  | .k (.string z)=>some (z,[])
  | _=>none
 | .d e,c=>match c with
  | .d _ x=>match zk e x with
   | some y=>some (y,[])
   | none=>none
  | .k (.slice none 0 0)=>some ([],[])
  | .o l=>match b.obj s l with
   | .held _ _ x=>match zk e x with
    | some y=>some (y,[])
    | none=>none
   | _=>none
  | _=>none
 | .own t e,c=>match c with
  | .k (.slice none 0 0)=>some ([],[])
  | .o l=>match b.obj s l with
   | .sl t' _ x=>if Nat.beq t' t then (match zk e x with
    | some y=>some (y,[l])
    | none=>none) else none
   | _=>none
  | _=>none
 | .p l off,c=>match c with
  | .p l' ahT=>if Nat.beq l' l&& Nat.beq ahT off&& gx l b.h.length then some ((),[]) else none
  | _=>none
 | .m l,c=>match c with
  | .m l'=>if Nat.beq l' l&& gx l b.h.length then some ((),[]) else none
  | _=>none
 | .pa t,c=>match c with
  | .p l 0=>match b.obj s l with
   | .ab k=>match t.rd k with
    | some x=>some (x,[l])
    | none=>none
   | _=>none
  | _=>none
 | .Jw c0,c=>if Cl.same c c0&& c0.labels.all (λl=>gx l b.h.length) then some ((),[]) else none
 | .dp e,c=>match c with
  | .de _ x i off=>if decide (i=0)&& Nat.beq off 0 then (match zk e x with
   | some y=>some (y,[])
   | none=>none) else none
  | _=>none
inductive Oe
 | cells (t:TypeId) (cs:List Sh)
 | sl (t:TypeId) (e:Ty)
 | map (t:TypeId) (k:Kk) (e:Ty)
 | ab (t:Wu)
 | abs
@[reducible] def Oa.den:List Sh->Type
 | []=>Unit
 | h::r=>h.den×Oa.den r
def Oa.mk:(l:List Sh)->Oa.den l->Nat->List Cl×List HO
 | [],_,_=>([],[])
 | h::r,x,n=>((h.mk x.1 n).1::(Oa.mk r x.2 (n+(h.mk x.1 n).2.length)).1,(h.mk x.1 n).2++(Oa.mk r x.2 (n+(h.mk x.1 n).2.length)).2)
def Oa.rd (b:Bs) (s:Ov):(l:List Sh)->List Cl->Option (Oa.den l×List Nat)
 | [],[]=>some ((),[])
 | h::r,c::cs=>match h.rd b s c with
  | some (x,u)=>match Oa.rd b s r cs with
   | some (y,v)=>some ((x,y),u++v)
   | none=>none
  | none=>none
 | _,_=>none
@[reducible] def Oe.den:Oe->Type
 | .cells _ cs=>Oa.den cs
 | .sl _ e=>List e.den
 | .map _ k e=>List (k.den×e.den)
 | .ab t=>t.den
 | .abs=>Value->Atom
def Oe.mk:(h:Oe)->h.den->Nat->HO×List HO
 | .cells t cs,x,n=>(.cells t (Oa.mk cs x n).1,(Oa.mk cs x n).2)
 | .sl t e,x,_=>(.sl t e x,[])
 | .map t k e,x,_=>(.map t k e x,[])
 | .ab t,x,_=>(.ab (t.mk x),[])
 | .abs,x,_=>(.abs x,[])
def Oe.rd (b:Bs) (s:Ov):(h:Oe)->HO->Option (h.den×List Nat)
 | .cells t cs,o=>match o with
  | .cells t' c=>if Nat.beq t' t then Oa.rd b s cs c else none
  | _=>none
 | .sl t e,o=>match o with
  | .sl t' _ x=>if Nat.beq t' t then (match zk e x with
   | some y=>some (y,[])
   | none=>none) else none
  | _=>none
 | .map t k e,o=>match o with
  | .map t' _ _ x=>if Nat.beq t' t then (match asM k e x with
   | some y=>some (y,[])
   | none=>none) else none
  | _=>none
 | .ab t,o=>match o with
  | .ab k=>match t.rd k with
   | some x=>some (x,[])
   | none=>none
  | _=>none
 | .abs,o=>match o with
  | .abs a=>some (a,[])
  | _=>none
structure xG where
 jK:List (Nat×Sh)
 yL:List (Nat×Oe)
@[reducible] def r7:List (Nat×Sh)->Type
 | []=>Unit
 | p::r=>p.2.den×r7 r
@[reducible] def wO:List (Nat×Oe)->Type
 | []=>Unit
 | p::r=>p.2.den×wO r
@[reducible] def xG.den (a:xG):Type:=r7 a.jK×wO a.yL
def jz:(l:List (Nat×Sh))->r7 l->Nat->Am×List HO
 | [],_,_=>([],[])
 | p::r,x,n=>((p.1,.c (p.2.mk x.1 n).1)::(jz r x.2 (n+(p.2.mk x.1 n).2.length)).1,(p.2.mk x.1 n).2++(jz r x.2 (n+(p.2.mk x.1 n).2.length)).2)
def mi:(l:List (Nat×Oe))->wO l->Nat->List (Nat×HO)×List HO
 | [],_,_=>([],[])
 | p::r,x,n=>((p.1,(p.2.mk x.1 n).1)::(mi r x.2 (n+(p.2.mk x.1 n).2.length)).1,(p.2.mk x.1 n).2++(mi r x.2 (n+(p.2.mk x.1 n).2.length)).2)
def AJ (b:Bs) (s:Ov):(l:List (Nat×Sh))->Option (r7 l×List Nat)
 | []=>some ((),[])
 | p::r=>match b.slot s p.1 with
  | some (.v (.c c))=>match p.2.rd b s c with
   | some (x,u)=>match AJ b s r with
    | some (y,v)=>some ((x,y),u++v)
    | none=>none
   | none=>none
  | _=>none
def IN (b:Bs) (s:Ov):(l:List (Nat×Oe))->Option (wO l×List Nat)
 | []=>some ((),[])
 | p::r=>match p.2.rd b s (b.obj s p.1) with
  | some (x,u)=>match IN b s r with
   | some (y,v)=>some ((x,y),u++v)
   | none=>none
  | none=>none
inductive ba {ι:Type} (B:ι->(ι->Prop)->Prop) (i:ι):Prop
 | intro (I:ι->Prop) (μ:ι->Nat) (h0:I i) (h:∀ j,I j->B j λj'=>I j'/\μ j'< μ j)
abbrev agQ (ι:Type) (B:ι->(ι->Prop)->Prop) (i:ι):Prop:=ba B i
inductive cY {ι:Type} (A:(ι->Prop)->Prop) (B:ι->Prop):Prop
 | intro (J:ι->Prop) (hA:A J) (hB:∀ i,J i->B i)
def nH:Code->List Nat
 | .region _ ops _=>ops.toList.filterMap (·.dst)
 | .seq a b=>nH a++nH b
 | .cond _ a b=>nH a++nH b
 | .block _ c| .loop c| .scope c=>nH c
 | _=>[]
def pF:Code->Nat
 | .region id _ _=>id+1
 | .seq a b=>let k:=pF a;bif Nat.beq k 0 then pF b else k
 | .cond _ a b=>let k:=pF a;bif Nat.beq k 0 then pF b else k
 | .block _ c| .loop c| .scope c=>pF c
 | _=>0
structure Eo where
 loops:List (Nat×xG)
 YZ:List (Nat×xG)
def MN:List (Nat×xG)->Nat->Option xG
 | [],_=>none
 | (k,v)::s,t=>bif Nat.beq k t then some v else MN s t
def Ht:Nat->List HO->List (Nat×HO)
 | _,[]=>[]
 | n,o::r=>(n,o)::Ht (n+1) r
def pO (ks:List Nat) (b:Bs) (s:Ov):Bs:= {f:=(s.f++b.f).filter λp=> !ir p.1 ks,h:=b.heap s}
def uF (ks:List Nat) (b:Bs) (s:Ov):Ov:= {f:=(s.f++b.f).filter λp=>ir p.1 ks,h:=[],n:=s.n}
def o9 (ks:List Nat) (s s':Ov):Ov:= {f:=s'.f++(ks.map (λk=>(k,SV.any))++s.f),h:=s'.h++s.h,n:=s'.n}
def Yp (b:Bs) (s:Ov):Sh->Cl->List Nat
 | .own _ _,.o l=>match b.obj s l with
  | .sl .. =>[l]
  | _=>[]
 | .pa _,.p l 0=>match b.obj s l with
  | .ab _=>[l]
  | _=>[]
 | _,_=>[]
def Sk (b:Bs) (s:Ov):List Sh->List Cl->List Nat
 | h::r,c::cs=>Yp b s h c++Sk b s r cs
 | _,_=>[]
def CC (a:xG) (b:Bs) (s:Ov):List Nat:=
 (a.jK.flatMap λp=>match b.slot s p.1 with
  | some (.v (.c c))=>Yp b s p.2 c
  | _=>[])++a.yL.flatMap λp=>match p.2,b.obj s p.1 with
  | .cells _ l,.cells _ cs=>Sk b s l cs
  | _,_=>[]
def oF (a:xG) (n0:Nat) (i:a.den):List HO:=(jz a.jK i.1 n0).2++(mi a.yL i.2 (n0+(jz a.jK i.1 n0).2.length)).2
def lq (a:xG) (us:List Nat) (n0:Nat) (i:a.den):Ov:=
 {f:=(jz a.jK i.1 n0).1,h:=Ht n0 (oF a n0 i)++((mi a.yL i.2 (n0+(jz a.jK i.1 n0).2.length)).1++us.map λl=>(l,HO.gone)),n:=n0+(oF a n0 i).length}
def afj (a:xG) (ks:List Nat) (n0:Nat) (us0:List Nat) (s':Ov) (us:List Nat):Bool:=
 ny (us++a.yL.map (·.1))&& us.all (λl=>Nat.ble n0 l|| ir l us0)&& (a.yL.map (·.1)).all (λl=>gx l n0&& !ir l us0)&& s'.f.all (λp=>ir p.1 ks)&& s'.h.all (λp=>Nat.ble n0 p.1|| ir p.1 (a.yL.map (·.1))|| ir p.1 us0)
def PC (a:xG) (ks:List Nat) (n0:Nat) (us0:List Nat) (b:Bs) (s':Ov) (k:a.den->Prop):Prop:=match AJ b s' a.jK,IN b s' a.yL with
 | some (x,u),some (y,v)=>if afj a ks n0 us0 s' (u++v) then k (x,y) else False
 | _,_=>False
def Ov.force (s:Ov) (K:Ov->Prop):Prop:=ji s.f λf=>ji s.h λh=>K {f:=f,h:=h,n:=s.n}
def Bs.force (b:Bs) (K:Bs->Prop):Prop:=ji b.f λf=>ji b.h λh=>K {f:=f,h:=h}
def Ov.told (s:Ov) (c:Operand) (v:Bool):Ov:=match c with
 | .tmp t=>s.put (some t) (.bool v)
 | _=>s
def ahu (body:Ov->(Ex->Ov->Prop)->Prop) (Q:Ex->Ov->Prop):Nat->Ov->Prop
 | 0,_=>False
 | k+1,s=>s.force λs=>body s λe s'=>match e with
  | .normal=>ahu body Q k s'
  | e=>Q e s'
def lB (X:Vx) (n:Nat) (an:Eo):Code->Bs->Ov->(Ex->Ov->Prop)->Prop
 | .skip,_,s,Q=>Q .normal s
 | .region _ ops draw,b,s,Q=>s.force λs=>wi X n ops draw b s λs'=>Q .normal s'
 | .seq x y,b,s,Q=>match MN an.YZ (pF y) with
  | none=>lB X n an x b s λe s'=>match e with
   | .normal=>lB X n an y b s' Q
   | e=>Q e s'
  | some a=>
   s.force λs=>ji (nH x++a.jK.map (·.1)) λks=>(pO ks b s).force λb1=>
   let us0:=CC a b s
   cY (ι:=a.den) (λk=>lB X n an x b1 (uF ks b s) λe s'=>match e with
     | .normal=>PC a ks s.n us0 b1 s' k
     | e=>Q e (o9 ks s s'))
    (λi=>lB X n an y b1 (lq a us0 s.n i) λe s'=>Q e (o9 ks s s'))
 | .cond c x y,b,s,Q=>match fg b s c with
  | some (.v (.c (.k (.bool v))))=>br v (lB X n an x b (s.told c true) Q) (lB X n an y b (s.told c false) Q)
  | _=>False
 | .block id c,b,s,Q=>lB X n an c b s λe s'=>match e with
  | .exit j=>if Nat.beq j id then Q .normal s' else Q (.exit j) s'
  | e=>Q e s'
 | .loop c,b,s,Q=>match afk X.unr (pF c),MN an.loops (pF c) with
  | some k,_=>ahu (λs q=>lB X n an c b s q) Q k s
  | none,none=>False
  | none,some a=>
   (Dg X.cloH b s).force λs=>ji (nH c++a.jK.map (·.1)) λks=>(pO ks b s).force λb1=>
   let us0:=CC a b s
   PC a ks s.n us0 b1 (uF ks b s) λi0=>
    ba (ι:=a.den) (λi again=>lB X n an c b1 (lq a us0 s.n i) λe s'=>match e with
     | .normal=>PC a ks s.n us0 b1 s' again
     | e=>Q e (ZL X.sfh b (o9 ks s s'))) i0
 | .exit id,_,s,Q=>Q (.exit id) s
 | .ret,_,s,Q=>Q .ret s
 | _,_,_,_=>False
def lF (P:Program) (b:Bs) (s:Ov):List ResultVar->Option (List S1)
 | []=>some []
 | .tmp t::r=>match b.slot s t with
  | some (.v v)=>match lF P b s r with
   | some l=>some (v::l)
   | none=>none
  | _=>none
 | .cell t ty::r=>match b.slot s t with
  | some (.v (.c (.p l off)))=>match b.obj s l with
   | .cells _ cs=>match pY P ty cs off with
    | some v=>match lF P b s r with
     | some q=>some (v::q)
     | none=>none
    | none=>none
   | _=>none
  | _=>none
def pack:List S1->SV
 | [v]=>.v v
 | l=>.cZ l
def aiK (P:Program) (b:Bs) (s:Ov) (rs:List ResultVar) (k:SV->Prop):Prop:=match rs with
 | [.tmp t]=>(match b.slot s t with
  | some (.arr q l)=>k (.arr q l)
  | _=>match lF P b s [.tmp t] with
   | some l=>k (pack l)
   | none=>False)
 | [.cell t ty]=>(match b.slot s t with
  | some (.v (.c c))=>sS P b s ty c k
  | _=>False)
 | rs=>match lF P b s rs with
  | some l=>k (pack l)
  | none=>False
def ae4 (P:Program) (fn:Func) (n0:Nat) (b:Bs) (s:Ov) (Q:SV->List HO->Prop):Prop:=aiK P b s fn.results.toList λr=>
  ji (bP n0++(sg (b.obj s) 1000 (r.labels++(bP n0).flatMap λi=>(b.obj s i).labels) []).filter λl=>Nat.ble n0 l) λls=>
  if ny ls&& ls.all (λl=>gx l s.n) then Q (r.fw (iw ls)) (ls.map λl=>(b.obj s l).fw (iw ls)) else False
def acV (P:Program) (c:Bool) (fn:Func) (n0:Nat) (b:Bs) (s:Ov) (Q:SV->List HO->Prop):Prop:=ae4 P fn n0 b (Dg c b s) Q
def MI:Code->Bool
 | .rangeFunc .. =>false
 | .seq x y=>MI x&& MI y
 | .cond _ x y=>MI x&& MI y
 | .block _ c| .loop c| .scope c=>MI c
 | _=>true
def OH (X:Vx) (n:Nat) (an:Eo) (p:Nat) (assign body:Code) (e:Ty) (xs:List e.den) (m:Int) (a:xG) (b:Bs) (s:Ov) (Q:Ov->Prop):Prop:=
 s.force λs=>(pO [] b s).force λb1=>
 let us0:=CC a b s
 (1<=m/\m<=1000000000)/\xs.length<=1000000000000/\PC a [] s.n us0 b1 (uF [] b s) λi0=>
  ba (ι:=Nat×a.den) (λi again=>br (gx (i.1*m.toNat) xs.length)
   (lB X n an assign b1 ((lq a us0 s.n i.2).put (some p) (.c (.d e ((xs.drop (i.1*m.toNat)).take m.toNat)))) λx s2=>match x with
    | .normal=>lB X n an body b1 s2 λx s3=>match x with
     | .normal=>PC a [] s.n us0 b1 {s3 with f:=[]} λj=>again (i.1+1,j)
     | _=>False
    | _=>False)
   (Q (o9 [] s (lq a us0 s.n i.2)))) (0,i0)
def Hy (X:Vx) (n:Nat) (an:Eo) (t p:Nat) (assign body:Code) (b:Bs) (s:Ov) (Q:Ov->Prop):Prop:=match b.slot s t with
 | some (.v (.c (.fn f [.p l1 0,.p l2 0])))=>(match Gq X.chk f,b.obj s l1,b.obj s l2,MN an.loops (pF assign) with
  | some e,.cells _ [.d e' xs'],.cells _ [.k (.int .i64 m)],some a=>(match zk e xs',a.jK with
   | some xs,[]=>if !Nat.beq l1 l2&& (MI assign&& MI body&& (gx p n&& qV X.P f)) then OH X n an p assign body e xs m a b ((s.dU l1 .gone).dU l2 .gone) Q else False
   | _,_=>False)
  | _,_,_,_=>False)
 | _=>False
def oh (X:Vx) (n:Nat) (an:Eo) (c:Code) (b:Bs) (s:Ov) (Q:Ex->Ov->Prop):Prop:=match MI c with
 | true=>lB X n an c b s Q
 | false=>match c with
  | .seq x y=>(match MN an.YZ (pF y) with
   | none=>oh X n an x b s λe s'=>match e with
    | .normal=>oh X n an y b s' Q
    | e=>Q e s'
   | some _=>False)
  | .block id c=>oh X n an c b s λe s'=>match e with
   | .exit j=>if Nat.beq j id then Q .normal s' else Q (.exit j) s'
   | e=>Q e s'
  | .rangeFunc g ps assign body=>(match g,ps.toList with
   | .tmp t,[p]=>Hy X n an t p assign body b s λs'=>Q .normal s'
   | _,_=>False)
  | _=>False
def ou:Nat->List SV->Am
 | _,[]=>[]
 | k,v::r=>(k,v)::ou (k+1) r
def acT (X:Vx) (an:Eo) (fn:Func) (args:List SV) (H:List HO) (Q:SV->List HO->Prop):Prop:=match fn.body with
 | none=>False
 | some c=>if Nat.ble args.length fn.ntmps then
   P9 args (oh X fn.ntmps an c {f:=ou 0 args,h:=H} {f:=[],h:=[],n:=H.length} λe s=>match e with
    | .normal| .ret=>acV X.P X.clo fn H.length {f:=ou 0 args,h:=H} s Q
    | .exit _=>False)
  else False

theorem dc {c:Bool} {p:Prop} (h:if c=true then p else False):c=true/\p:=by
 cases c;cases h;exact ⟨rfl,h⟩
section
variable {b:Bs} {s:Ov}
theorem dQ:(b.heap s).length=s.n:=by simp [Bs.heap]
theorem eM {l:Nat} (h:l< s.n):(b.heap s)[l]?=some (b.obj s l):=by
 simp [Bs.heap,cz,List.getElem?_range h]
theorem jq {l k:Nat} {o:HO}:b.obj (s.dU l o) k=if l=k then o else b.obj s k:=by
 unfold Bs.obj Ov.dU;simp only [gG];by_cases e:l=k;subst e;simp;rw [ix e,if_neg e];rfl
theorem jv {l:Nat} {o:HO} (h:l< s.n):b.heap (s.dU l o)=(b.heap s).set l o:=by
 apply List.ext_getElem?;intro k;rw [List.getElem?_set];by_cases hk:k< s.n
 .rw [eM (s:=s.dU l o) hk,jq];by_cases e:l=k
  .subst e;simp [dQ,h]
  .rw [if_neg e,if_neg e,eM hk]
 .have h1:(b.heap (s.dU l o))[k]?=none:=dy (by rw [dQ];show s.n<=k;omega);have h2:(b.heap s)[k]?=none:=dy (by rw [dQ];omega);rw [h1,h2];have gD:l≠k:=by omega
  rw [if_neg gD]
theorem tT {k:Nat} {o:HO}:b.obj (s.new o) k=if s.n=k then o else b.obj s k:=by
 unfold Bs.obj Ov.new;simp only [gG];by_cases e:s.n=k;rw [if_pos e];subst e;simp;rw [ix e,if_neg e];rfl
theorem ta {o:HO}:b.heap (s.new o)=b.heap s++ [o]:=by
 apply List.ext_getElem?;intro k;by_cases hk:k< s.n;rw [aU (by rw [dQ];exact hk),eM hk,eM (s:=s.new o) (by show k< s.n+1;omega),tT,if_neg (by omega)]
 .rw [aZ (by rw [dQ];omega),dQ];by_cases e:s.n=k
  .subst e;rw [eM (s:=s.new o) (by show s.n< s.n+1;omega),tT,if_pos rfl];simp
  .rw [dy (by rw [dQ];show s.n+1<=k;omega),dy (by simp;omega)]
end

structure dr (n:Nat) (W:cV) (F:List Atom) (b:Bs) (E:Env) (g w:World) (s:Ov) (a:Act):Prop where
 size:a.tmps.size=n
 defers:a.defers=W.ds
 fr:∀ t v,b.slot s t=some v->dq E g v (a.tmps.getD t undef)
 sat:Sat W E g w (b.heap s) F
 top:∀ l,s.n<=l->b.obj s l= .gone
section
variable {P:Program} {n:Nat} {W:cV} {F:List Atom} {b:Bs} {E E':Env} {g g' w w':World} {s s':Ov} {a:Act}
theorem dr.len (S:dr n W F b E g w s a):E.length=s.n:=by rw [S.sat.len,dQ]
theorem dr.lt (S:dr n W F b E g w s a) {l:Nat} {v:Value} (h:E[l]?=some v):l< s.n:=by
 have:=(av.1 h).1;rw [S.len] at this;exact this
theorem dr.m (S:dr n W F b E g w s a):bA g w:=S.sat.m
theorem dr.le (S:dr n W F b E g w s a) (l:Le w w'):dr n W F b E g w' s a:=⟨S.size,S.defers,S.fr,S.sat.le l,S.top⟩
theorem dr.pick (S:dr n W F b E g w s a) {l:Nat} {v:Value} (h:E[l]?=some v):SL W g w (cJ E l (b.obj s l)::dD (bh E 0 (b.heap s)++F) l):=S.sat.pick (eM (S.lt h))
theorem dr.back (S:dr n W F b E g w s a) {l:Nat} {v:Value} (h:E[l]?=some v) (o':HO) (m:bA g g') (H:SL W g' w' (cJ E l o'::dD (bh E 0 (b.heap s)++F) l)):dr n W F b E g' w' (s.dU l o') a:=by
 have hl:=S.lt h;refine ⟨S.size,S.defers,λt v hv=>(S.fr t v hv).mono (bz.refl E) m,?_,λk hk=>?_⟩
 .rw [jv hl];exact Sat.back (o:=b.obj s l) o' S.sat.len (eM hl) H
 .rw [jq,if_neg (by have:s.n<=k:=hk;omega)];exact S.top k hk
theorem dr.new (S:dr n W F b E g w s a) {o:HO} {v:Value} (m:bA g g') (H:SL W g' w' (cJ (E++ [v]) s.n o::(bh E 0 (b.heap s)++F))):dr n W F b (E++ [v]) g' w' (s.new o) a:=by
 refine ⟨S.size,S.defers,λt u hu=>(S.fr t u hu).mono (bz.app E [v]) m,?_,λk hk=>?_⟩
 .rw [ta];refine Sat.push S.sat.len ?_;rw [dQ];exact H
 .rw [tT,if_neg (by have:s.n+1<=k:=hk;omega)];exact S.top k (by have:s.n+1<=k:=hk;omega)
theorem dr.move (S:dr n W F b E g w s a) {l:Nat} {v u:Value} {o2:HO} (h:E[l]?=some u) (m:bA g g') (H:SL W g' w' (cJ (E++ [v]) s.n o2::dD (bh E 0 (b.heap s)++F) l)):dr n W F b (E++ [v]) g' w' ((s.dU l .gone).new o2) a:=by
 have hl:=S.lt h;refine ⟨S.size,S.defers,λt u hu=>(S.fr t u hu).mono (bz.app E [v]) m,?_,λk hk=>?_⟩
 .rw [ta,jv hl];refine Sat.move (o:=b.obj s l) S.sat.len (eM hl) ?_;rw [dQ];exact H
 .have vY:s.n+1<=k:=hk;rw [tT,if_neg (by show ¬s.n=k;omega),jq,if_neg (by omega)];exact S.top k (by omega)
theorem YA:∀ {v:Value},okB v=true->okV v
 | .int k n,h=>oK.2 h
 | .string s,h=>by
  have h':decide (s.size<=maxLen)=true:=h;simpa [okV] using h'
 | .bool _,_| .float ..,_| .complex ..,_| .pointer _,_| .slice ..,_| .map _,_| .chan _,_| .func ..,_| .nilFunc,_| .iface ..,_| .nilIface,_=>rfl
 | .agg _,h=>h
 | .tuple _,h=>h
theorem k9:∀ {us:List Value} {l:List Cl},uf us=some l->bB E g l us
 | [],l,h=>by
  obtain rfl: []=l:=aj h;exact bB.nil
 | v::r,l,h=>by
  unfold uf at h;split at h
  .rename_i hv;split at h
   .rename_i q hq;obtain rfl: .k v::q=l:=aj h;exact bB.cons ⟨rfl,YA hv⟩ (k9 hq)
   .cases h
  .cases h
theorem GS {v:Value} {sv:SV} (h:JA v=some sv):dq E g sv v:=by
 unfold JA at h;split at h
 .rename_i cs;split at h
  .rename_i l hl;obtain rfl:SV.v (.agg l)=sv:=aj h;exact ⟨cs.toList,k9 hl,by simp⟩
  .cases h
 .split at h
  .rename_i hk;obtain rfl:SV.k v=sv:=aj h;exact ⟨rfl,YA hk⟩
  .cases h
theorem dr.fg (S:dr n W F b E g w s a) {x:Operand} {v:SV} (h:Lm.fg b s x=some v):dq E g v (a.eval x):=by
 cases x with
 | tmp t=>exact S.fr t v h
 | const u=>exact GS h
 | func f=>
  obtain rfl:SV.c (.fn f [])=v:=aj h;exact ⟨[],bB.nil,rfl⟩
 | global _=>cases h
theorem ia {k:IntKind} {m:Int} {u:Value} (h:dq E g (.v (.c (.k (.int k m)))) u):u= .int k m/\aI k m:=h
theorem dB {k:IntKind} {m:Int} (h:aI k m):dq E g (.v (.c (.k (.int k m)))) (.int k m):=⟨rfl,h⟩
theorem gm (q:Bool):dq E g (.bool q) (.bool q):=⟨rfl,rfl⟩
theorem ev (k:IntKind) (z:Int):aI k (k.wrap z):=by
 cases k<;>simp [aI,IntKind.wrap,eI,ij]<;>refine ⟨?_,?_⟩<;>(try split)<;>omega
theorem pL {k:IntKind} {z:Int} (h:aI k z):k.wrap z=z:=o8 (oK.1 h)
theorem LD {k:IntKind} {x y:Int} (h:aI k x):aI k (x.tmod y):=by
 have h1:0<=x->0<=x.tmod y/\x.tmod y<=x:=λh=>⟨Int.tmod_nonneg y h,by
  have:=Int.tmod_add_mul_tdiv x y;rcases Int.lt_or_le y 0 with hy| hy
  .have hq:x.tdiv y<=0:=Int.tdiv_nonpos_of_nonneg_of_nonpos h (by omega);have:0<=y*x.tdiv y:=Int.mul_nonneg_of_nonpos_of_nonpos (by omega) hq;omega
  .have hq:0<=x.tdiv y:=Int.tdiv_nonneg h hy;have:0<=y*x.tdiv y:=Int.mul_nonneg hy hq;omega⟩
 rcases Int.lt_or_le x 0 with hx| hx
 .have h2:x.tmod y= -((-x).tmod y):=by rw [Int.neg_tmod];omega
  have h3:0<=(-x).tmod y/\(-x).tmod y<= -x:=by
   refine ⟨Int.tmod_nonneg y (by omega),?_⟩;have:=Int.tmod_add_mul_tdiv (-x) y;rcases Int.lt_or_le y 0 with hy| hy
   .have hq:(-x).tdiv y<=0:=Int.tdiv_nonpos_of_nonneg_of_nonpos (by omega) (by omega);have:0<=y*(-x).tdiv y:=Int.mul_nonneg_of_nonpos_of_nonpos (by omega) hq;omega
   .have hq:0<=(-x).tdiv y:=Int.tdiv_nonneg (by omega) hy;have:0<=y*(-x).tdiv y:=Int.mul_nonneg hy hq;omega
  cases k<;>simp only [aI] at h ⊢ <;>omega
 .have:=h1 hx;cases k<;>simp only [aI] at h ⊢ <;>omega
theorem Nh {k:IntKind} {x:Int} {m:Nat} (h:aI k x):aI k (x.fdiv (2 ^ m)):=by
 have hp:(1:Int)<=2 ^ m:=by
  have:(0:Int)< 2 ^ m:=Int.pow_pos (by decide);omega
 have e:x.fdiv (2 ^ m)=x / 2 ^ m:=Int.fdiv_eq_ediv_of_nonneg x (by omega);rw [e];generalize (2:Int) ^ m=p at hp;have hd:=Int.mul_ediv_add_emod x p;have h0:=Int.emod_nonneg x (show p≠0 by omega);have h1:=Int.emod_lt_of_pos x (show 0< p by omega);rcases Int.lt_or_le x 0 with hx| hx
 .have hq:x / p< 0:=Int.ediv_neg_of_neg_of_pos hx (by omega);have:x<=x / p:=by
   have h2:p*(x / p)<=1*(x / p):=Int.mul_le_mul_of_nonpos_right hp (by omega);have h3:x< p*(x / p)+p:=by omega
   rcases Int.lt_or_le (x / p) x with h4| h4
   .exfalso
    have h5:x / p+1<=x:=by omega
    have h6:p*(x / p)<=x:=by omega
    have h7:p*(x / p+1)<=1*(x / p+1):=Int.mul_le_mul_of_nonpos_right hp (by omega);rw [Int.mul_add,Int.mul_one] at h7;omega
   .exact h4
  cases k<;>simp only [aI] at h ⊢ <;>omega
 .have hq:0<=x / p:=Int.ediv_nonneg hx (by omega);have:x / p<=x:=Int.ediv_le_self p hx;cases k<;>simp only [aI] at h ⊢ <;>omega
end
theorem Qc {P:Program} {w:World} {d n:Nat} {xs ys:Array Value} {f:Field} {fs:List Field} {gs:Array Field} {a b:Bool} (hn:(f.name != "_")=true) (hu:P.underlying f.type=some (.struct gs)) (hi:((P.info? f.type).map (·.size))=some n) (hp:P.stoodInHeld f.type=false)
  (hx:(Op.eqFields d (xs.extract f.offset (f.offset+n)) (ys.extract f.offset (f.offset+n)) gs.toList).run P w= .ok a w) (hr:(Op.eqFields (d+1) xs ys fs).run P w= .ok b w):(Op.eqFields (d+1) xs ys (f::fs)).run P w= .ok (a&& b) w:=by
 have hp1:∀ cs:Array Value,(part f.type cs f.offset).run P w= .ok (.agg (cs.extract f.offset (f.offset+n))) w:=λcs=>by
  cases hq:P.info? f.type with
  | none=>simp [hq] at hi
  | some i=>
   simp [hq] at hi;subst hi;simp [part,isAgg,sizeOf,typeInfo,run_underlying hu,go_sem,hq]
 have gD:f.name≠ "_" :=by simpa using hn
 have hfs:P.fieldsOf f.type=gs:=by unfold Program.fieldsOf;rw [hu]
 have he:=run_equalIn_struct (P:=P) w d f.type (xs.extract f.offset (f.offset+n)) (ys.extract f.offset (f.offset+n)) (by rw [hfs];exact hu) hp;rw [hfs,hx] at he;simp only [Op.eqFields,if_pos gD,Sem.run_bind,hp1,Result.andThen_ok,he];cases a;simp [go_sem];simp [hr]
theorem ad5 {P:Program} {w:World} {d:Nat} {xs ys:Array Value} {f:Field} {fs:List Field} {m n:ByteArray} {b:Bool} (hn:(f.name != "_")=true) (hu:P.underlying f.type=some .string) (hi:((P.info? f.type).map (·.size))=some 1)
  (hx:xs[f.offset]?=some (.string m)) (hy:ys[f.offset]?=some (.string n)) (hr:(Op.eqFields (d+1) xs ys fs).run P w= .ok b w):(Op.eqFields (d+1) xs ys (f::fs)).run P w= .ok ((m.toList==n.toList)&& b) w:=by
 have hpx:(part f.type xs f.offset).run P w= .ok (.string m) w:=by
  cases hq:P.info? f.type with
  | none=>simp [hq] at hi
  | some i=>simp [part,isAgg,run_underlying hu,go_sem,hx]
 have Zb:(part f.type ys f.offset).run P w= .ok (.string n) w:=by
  cases hq:P.info? f.type with
  | none=>simp [hq] at hi
  | some i=>simp [part,isAgg,run_underlying hu,go_sem,hy]
 have gD:f.name≠ "_" :=by simpa using hn
 have he:(Op.equalIn (d+1) f.type (.string m) (.string n)).run P w= .ok (m.toList==n.toList) w:=by
  simp [Op.equalIn,run_underlying hu,go_sem,beq_toListBytes]
 simp only [Op.eqFields,if_pos gD,Sem.run_bind,hpx,Zb,Result.andThen_ok,he];cases hb:m.toList==n.toList;simp [go_sem];simp [hr]
theorem Zx {P:Program} {w:World} {d:Nat} {xs ys:Array Value} {f:Field} {fs:List Field} {m n:Bool} {b:Bool} (hn:(f.name != "_")=true) (hu:P.underlying f.type=some .bool) (hi:((P.info? f.type).map (·.size))=some 1)
  (hx:xs[f.offset]?=some (.bool m)) (hy:ys[f.offset]?=some (.bool n)) (hr:(Op.eqFields (d+1) xs ys fs).run P w= .ok b w):(Op.eqFields (d+1) xs ys (f::fs)).run P w= .ok ((m==n)&& b) w:=by
 have hpx:(part f.type xs f.offset).run P w= .ok (.bool m) w:=by
  cases hq:P.info? f.type with
  | none=>simp [hq] at hi
  | some i=>simp [part,isAgg,run_underlying hu,go_sem,hx]
 have Zb:(part f.type ys f.offset).run P w= .ok (.bool n) w:=by
  cases hq:P.info? f.type with
  | none=>simp [hq] at hi
  | some i=>simp [part,isAgg,run_underlying hu,go_sem,hy]
 have gD:f.name≠ "_" :=by simpa using hn
 have he:(Op.equalIn (d+1) f.type (.bool m) (.bool n)).run P w= .ok (m==n) w:=by
  simp [Op.equalIn,run_underlying hu,go_sem]
 simp only [Op.eqFields,if_pos gD,Sem.run_bind,hpx,Zb,Result.andThen_ok,he];cases hb:m==n;simp [go_sem];simp [hr]

def Out (n:Nat) (W:cV) (F:List Atom) (b:Bs) (E:Env) (g:World) (a:Act) (K:SV->Ov->Prop) (v:Value) (w':World):Prop:=
 ∃ E' g' s' sv,bz E E'/\bA g g'/\dr n W F b E' g' w' s' a/\dq E' g' sv v/\K sv s'
def lh (P:Program) (o:Oper) (a:Act) (w:World) (R:Value->World->Prop):Prop:=
 (∃ v w',(execOp a.eval o).run P w= .ok (.value v) w'/\R v w')\/(∃ w',(execOp a.eval o).run P w= .ok .skip w'/\R undef w')\/(∃ f args,(execOp a.eval o).run P w= .ok (.enter f args) w/\Ho P f args w R)
def PR (P:Program) (m:Sem Value) (w:World) (E:Env) (g:World) (K:SV->Prop):Prop:=∃ v sv,m.run P w= .ok v w/\dq E g sv v/\K sv
section
variable {P:Program} {n:Nat} {W:cV} {F:List Atom} {b:Bs} {E:Env} {g w:World} {s:Ov} {a:Act} {K:SV->Prop}
theorem LY {op:BinOp} {k:IntKind} {x y:Int} {t:TypeId} (hx:aI k x) (h:PS op k x y K):PR P (binOp op t (.int k x) (.int k y)) w E g K:=by
 have ar:∀ {z:Int},arith k z K->PR P (pure (Value.int k (k.wrap z))) w E g K:=λ{z} h=>by
  cases k<;>first
   | exact ⟨_,_,rfl,dB (ev _ z),h (ev _ z)⟩
   | exact ⟨_,_,by rw [pL (k:=.i64) h.1];rfl,dB h.1,h.2⟩
 cases op
 case add=>
  have e:(binOp .add t (.int k x) (.int k y))=pure (Value.int k (k.wrap (x+y))):=by simp [binOp,Op.intArith]
  rw [e];exact ar h
 case sub=>
  have e:(binOp .sub t (.int k x) (.int k y))=pure (Value.int k (k.wrap (x - y))):=by simp [binOp,Op.intArith]
  rw [e];exact ar h
 case mul=>
  have e:(binOp .mul t (.int k x) (.int k y))=pure (Value.int k (k.wrap (x*y))):=by simp [binOp,Op.intArith]
  rw [e];exact ar h
 case quo=>
  obtain ⟨hy,h⟩:=h;have e:(binOp .quo t (.int k x) (.int k y))=pure (Value.int k (k.wrap (x.tdiv y))):=by simp [binOp,Op.intDiv,hy]
  rw [e];exact ar h
 case rem=>
  obtain ⟨hy,h⟩:=h;have e:(binOp .rem t (.int k x) (.int k y))=pure (Value.int k (x.tmod y)):=by simp [binOp,Op.intDiv,hy]
  rw [e];exact ⟨_,_,rfl,dB (LD hx),h (LD hx)⟩
 case shl=>exact h.elim
 case shr=>exact h.elim
 case and=>
  have e:(binOp .and t (.int k x) (.int k y))=pure (Value.int k (di .and k x y)):=by simp [binOp,Op.intBits,di]
  rw [e];exact ⟨_,_,rfl,dB (ev _ _),h (ev _ _)⟩
 case or=>
  have e:(binOp .or t (.int k x) (.int k y))=pure (Value.int k (di .or k x y)):=by simp [binOp,Op.intBits,di]
  rw [e];exact ⟨_,_,rfl,dB (ev _ _),h (ev _ _)⟩
 case xor=>
  have e:(binOp .xor t (.int k x) (.int k y))=pure (Value.int k (di .xor k x y)):=by simp [binOp,Op.intBits,di]
  rw [e];exact ⟨_,_,rfl,dB (ev _ _),h (ev _ _)⟩
 case andNot=>
  have e:(binOp .andNot t (.int k x) (.int k y))=pure (Value.int k (di .andNot k x y)):=by simp [binOp,Op.intBits,di]
  rw [e];exact ⟨_,_,rfl,dB (ev _ _),h (ev _ _)⟩
 all_goals exact ⟨_,_,by simp [binOp,Op.intCmp],gm _,h⟩
theorem X2 {op:BinOp} {x y:ByteArray} {t:TypeId} (h:UF op x y K):PR P (binOp op t (.string x) (.string y)) w E g K:=by
 cases op<;>try exact h.elim
 case add=>
  have e:(binOp .add t (.string x) (.string y))=pure (Value.string (x++y)):=by
   have h1:¬((x.size+y.size:Nat):Int)>IntKind.i64.max:=by
    have:=h.1;simp [ku,eI,ij];omega
   simp only [binOp,Op.stringOp,if_neg h1]
  rw [e];refine ⟨_,.str (x++y),rfl,⟨rfl,?_⟩,h.2⟩;have:=h.1;show (x++y).size<=maxLen;rw [ByteArray.size_append];exact this
 all_goals exact ⟨_,_,by simp [binOp,Op.stringOp];rfl,gm _,h⟩
theorem LX {wr:Bool} {op:BinOp} {k:IntKind} {x y:Int} {t:TypeId} (hx:aI k x) (h:Jf wr op k x y K):PR P (binOp op t (.int k x) (.int k y)) w E g K:=by
 unfold Jf at h;split at h
 .split at h
  .have e:(binOp .add t (.int .i64 x) (.int .i64 y))=pure (Value.int .i64 (IntKind.wrap .i64 (x+y))):=by simp [binOp,Op.intArith]
   rw [e];exact ⟨_,_,rfl,dB (ev _ _),h (ev _ _)⟩
  .have e:(binOp .sub t (.int .i64 x) (.int .i64 y))=pure (Value.int .i64 (IntKind.wrap .i64 (x - y))):=by simp [binOp,Op.intArith]
   rw [e];exact ⟨_,_,rfl,dB (ev _ _),h (ev _ _)⟩
  .have e:(binOp .mul t (.int .i64 x) (.int .i64 y))=pure (Value.int .i64 (IntKind.wrap .i64 (x*y))):=by simp [binOp,Op.intArith]
   rw [e];exact ⟨_,_,rfl,dB (ev _ _),h (ev _ _)⟩
  .exact LY hx h
 .exact LY hx h
theorem Mw {e:TypeId} {k0:IntKind} (hu:P.underlying e=some (.int k0)) (hi:((P.info? e).map (·.size))=some 1) {cs:Array Value} {j:Nat} {v:Value} (hx:cs[j]?=some v):(part e cs j).run P w= .ok v w:=by
 cases hq:P.info? e with
 | none=>simp [hq] at hi
 | some i=>simp [part,isAgg,run_underlying hu,go_sem,hx]
theorem BZ {d:Nat} {e:TypeId} {k0:IntKind} (hu:P.underlying e=some (.int k0)) (hi:((P.info? e).map (·.size))=some 1):∀ {xs ys:List Cl} {us vs pu pv:List Value} {r:Bool},yU k0 xs ys=some r->bB E g xs us->bB E g ys vs->pu.length=pv.length->(Op.eqItems (d+1) e 1 (pu++us).toArray (pv++vs).toArray (List.range' pu.length xs.length)).run P w= .ok r w
 | [],[],us,vs,pu,pv,r,h,_,_,_=>by
  obtain rfl:true=r:=aj h;rfl
 | [],_::_,_,_,_,_,_,h,_,_,_=>by simp [yU] at h
 | _::_,[],_,_,_,_,_,h,_,_,_=>by simp [yU] at h
 | x::xs,y::ys,us,vs,pu,pv,r,h,⟨u,tF,e1,h1,h2⟩,⟨v,vs',e2,h3,h4⟩,hl=>by
  unfold yU at h;split at h
  .rename_i q1 _;exact absurd q1 (by simp)
  .rename_i k m l k' m' l' q1 q2;obtain ⟨rfl,rfl⟩:=List.cons.inj q1;obtain ⟨rfl,rfl⟩:=List.cons.inj q2;split at h
   .rename_i hk;rw [ao] at hk;obtain rfl:=IntKind.eq_of_beq hk.1;obtain rfl:=IntKind.eq_of_beq hk.2;split at h
    .rename_i q hq;obtain rfl:=aj h;obtain ⟨rfl,_⟩:=h1;obtain ⟨rfl,_⟩:=h3;subst e1 e2;have ih:=BZ (d:=d) (pu:=pu++ [.int k0 m]) (pv:=pv++ [.int k0 m']) hu hi hq h2 h4 (by simp [hl]);rw [aH,aH,af] at ih;have hx:(pu++Value.int k0 m::tF).toArray[pu.length*1]?=some (.int k0 m):=by simp
     have hy:(pv++Value.int k0 m'::vs').toArray[pu.length*1]?=some (.int k0 m'):=by simp [hl]
     have hpx:=Mw (w:=w) hu hi hx;have Zb:=Mw (w:=w) hu hi hy;have he:(Op.equalIn (d+1) e (.int k0 m) (.int k0 m')).run P w= .ok (m==m') w:=by
      simp [Op.equalIn,run_underlying hu,go_sem]
     show (Op.eqItems (d+1) e 1 (pu++Value.int k0 m::tF).toArray (pv++Value.int k0 m'::vs').toArray (pu.length::List.range' (pu.length+1) xs.length)).run P w=_;simp only [Op.eqItems,Sem.run_bind,hpx,Zb,Result.andThen_ok,he];cases hb:m==m';simp [go_sem];simpa using ih
    .cases h
   .cases h
  .cases h
theorem FP {d:Nat} {t e:TypeId} {n:Nat} {xs ys:List Cl} {us vs:List Value} {r:Bool} (ht:P.underlying t=some (.array n e)) (h:Zz P n e xs ys=some r) (hx:bB E g xs us) (hy:bB E g ys vs):(Op.equalIn (d+2) t (.agg us.toArray) (.agg vs.toArray)).run P w= .ok r w:=by
 unfold Zz at h;split at h
 .rename_i k0 i hu hi;split at h
  .rename_i hs;rw [ao] at hs;have h1:=ai hs.1;have h2:=ai hs.2;have hc:P.cellsOf e=1:=by unfold Program.cellsOf;rw [hi];exact h1
   rw [run_equalIn_array w (d+1) us.toArray vs.toArray ht hi,hc,<-h2,List.range_eq_range'];exact BZ (pu:=[]) (pv:=[]) hu (by rw [hi];exact congrArg some h1) h hx hy rfl
  .cases h
 .cases h
theorem ov:∀ (fuel:Nat) {fs:List Field} {xs ys:List Cl} {us vs:List Value} {r:Bool} {d:Nat},Js P fuel fs xs ys=some r->bB E g xs us->bB E g ys vs->fuel<=d->(Op.eqFields d us.toArray vs.toArray fs).run P w= .ok r w
 | 0,_,_,_,_,_,_,_,h,_,_,_=>by simp [Js] at h
 | f+1,[],_,_,_,_,r,d,h,_,_,hd=>by
  obtain rfl:true=r:=aj h;obtain ⟨d,rfl⟩:∃ k,d=k+1:=⟨d - 1,by omega⟩;exact ad6
 | fu+1,f::fs,xs,ys,us,vs,r,d,h,hx,hy,hd=>by
  obtain ⟨d,rfl⟩:∃ k,d=k+1:=⟨d - 1,by omega⟩;unfold Js at h;split at h
  .rename_i hn;split at h
   .rename_i k i hu hi;split at h
    .rename_i kE;have Y8:(P.info? f.type).map (·.size)=some 1:=by rw [hi];exact congrArg some (ai kE)
     split at h
     .rename_i k1 m k2 m2 hax hay;split at h
      .rename_i hk;rw [ao] at hk;obtain rfl:=IntKind.eq_of_beq hk.1;obtain rfl:=IntKind.eq_of_beq hk.2;split at h
       .rename_i q hq;obtain rfl:=aj h;obtain ⟨u,h1,h2,h3⟩:=hx.get hax;obtain ⟨v,h4,h5,h6⟩:=hy.get hay;subst h2;subst h5;exact ad7 hn hu Y8 (by simpa using h1) (by simpa using h4) (ov fu hq hx hy (by omega))
       .cases h
      .cases h
     .cases h
    .cases h
   .rename_i i hu hi;split at h
    .rename_i kE;have Y8:(P.info? f.type).map (·.size)=some 1:=by rw [hi];exact congrArg some (ai kE)
     split at h
     .rename_i m m2 hax hay;split at h
      .rename_i q hq;obtain rfl:=aj h;obtain ⟨u,h1,h2,h3⟩:=hx.get hax;obtain ⟨v,h4,h5,h6⟩:=hy.get hay;subst h2;subst h5;exact Zx hn hu Y8 (by simpa using h1) (by simpa using h4) (ov fu hq hx hy (by omega))
      .cases h
     .cases h
    .cases h
   .rename_i i hu hi;split at h
    .rename_i kE;have Y8:(P.info? f.type).map (·.size)=some 1:=by rw [hi];exact congrArg some (ai kE)
     split at h
     .rename_i m m2 hax hay;split at h
      .rename_i q hq;obtain rfl:=aj h;obtain ⟨u,h1,h2,h3⟩:=hx.get hax;obtain ⟨v,h4,h5,h6⟩:=hy.get hay;subst h2;subst h5;exact ad5 hn hu Y8 (by simpa using h1) (by simpa using h4) (ov fu hq hx hy (by omega))
      .cases h
     .cases h
    .cases h
   .rename_i gs i hu hi;split at h
    .cases h
    .rename_i hp;split at h
     .rename_i q1 hq1;split at h
      .rename_i q hq;obtain rfl:=aj h;refine Qc hn hu (by rw [hi];rfl) (by simpa using hp) ?_ (ov fu hq hx hy (by omega));have:=ov fu (d:=d) hq1 ((hx.drop f.offset).take i.size) ((hy.drop f.offset).take i.size) (by omega);rw [show (us.toArray.extract f.offset (f.offset+i.size))=((us.drop f.offset).take i.size).toArray by rw [List.extract_toArray,List.extract_eq_take_drop,Nat.add_sub_cancel_left],
        show (vs.toArray.extract f.offset (f.offset+i.size))=((vs.drop f.offset).take i.size).toArray by rw [List.extract_toArray,List.extract_eq_take_drop,Nat.add_sub_cancel_left]]
       exact this
      .cases h
     .cases h
   .cases h
  .cases h
def iR:Value->Bool
 | .pointer none| .slice none _ _| .map none| .nilFunc| .nilIface=>true
 | _=>false
def rZ (d:Option TypeDesc) (u:Value):Bool:=match d,u with
 | some (.pointer _),.pointer _=>true
 | some (.slice _),.slice _ _ _=>true
 | some (.map _ _),.map _=>true
 | some (.func _ _ _),.nilFunc| some (.func _ _ _),.func .. =>true
 | some (.interface _),.nilIface| some (.interface _),.iface .. =>true
 | _,_=>false
theorem nW {e:Ty} {v:Value} {x:List e.den} (h:oa e g v x):∃ a n c,v= .slice a n c/\(a=none->x= []):=by
 rcases (@dx e.den e.rep g v x).1 h with ⟨h1,h2⟩| ⟨a,c,h1,_⟩;exact ⟨none,0,0,h1,λ_=>h2⟩;exact ⟨some a,_,c,h1,λh=>by cases h⟩
theorem MD {d:Option TypeDesc} {x:Cl} {u:Value} (h:YB d x=true) (r:cv E g x u):rZ d u=true:=by
 unfold YB at h;split at h<;>first| (cases h;done)| skip
 .obtain ⟨rfl,_⟩:=r;rfl
 .obtain ⟨b,_,rfl⟩:=r;rfl
 .obtain ⟨h0,v,h1,h2⟩:=r;obtain ⟨cs,h3,_⟩:=Ah h1 h0.1 h0.2.1;obtain ⟨q,hq,_⟩:=h3 g (bA.refl g);rw [h2,hq];rfl
 .obtain ⟨v,_,_,q,rfl⟩:=r;rfl
 .obtain ⟨rfl,_⟩:=r;rfl
 .obtain ⟨q,n,c,rfl,_⟩:=nW r;rfl
 .obtain ⟨_,q,n,c,rfl⟩:=r;rfl
 .obtain ⟨rfl,_⟩:=r;rfl
 .obtain ⟨b,_,rfl⟩:=r;rfl
 .obtain ⟨rfl,_⟩:=r;rfl
 .obtain ⟨us,_,rfl⟩:=r;rfl
 .obtain ⟨rfl,_⟩:=r;rfl
 .obtain ⟨v,_,rfl⟩:=r;rfl
theorem Gh {d:Option TypeDesc} {y:Cl} {v:Value} (h:Gi d y=true) (r:cv E g y v):rZ d v=true/\iR v=true:=by
 unfold Gi at h;split at h<;>first| (cases h;done)| skip
 all_goals
  obtain ⟨rfl,_⟩:=r;exact ⟨rfl,rfl⟩
theorem No {t:TypeId} {u v:Value} (k:Nat) (hu:rZ (P.underlying t) u=true) (hv:rZ (P.underlying t) v=true) (hn:iR v=true):
  (Op.equalIn (k+1) t u v).run P w= .ok (iR u) w/\(Op.equalIn (k+1) t v u).run P w= .ok (iR u) w:=by
 cases hd:P.underlying t with
 | none=>rw [hd] at hu;cases u<;>cases hu
 | some d=>
  rw [hd] at hu hv;cases d<;>(try (cases u<;>cases hu;done))<;>cases u<;>(try (cases hu;done))<;>cases v<;>(try (cases hv;done))<;>(try (cases hn;done))
  case pointer.pointer.pointer e p q=>
   cases q with
   | some q=>cases hn
   | none=>cases p<;>constructor<;>simp [Op.equalIn,run_underlying hd,iR]
  case slice.slice.slice e p n c q n' c'=>
   cases q with
   | some q=>cases hn
   | none=>cases p<;>constructor<;>simp [Op.equalIn,run_underlying hd,iR]
  case map.map.map k e p q=>
   cases q with
   | some q=>cases hn
   | none=>cases p<;>constructor<;>simp [Op.equalIn,run_underlying hd,iR]
  all_goals constructor<;>simp [Op.equalIn,run_underlying hd,iR]
theorem VG {t:TypeId} {u v:Value} (hu:rZ (P.underlying t) u=true) (hv:rZ (P.underlying t) v=true) (hn:iR v=true):
  (Op.equal t u v).run P w= .ok (iR u) w/\(Op.equal t v u).run P w= .ok (iR u) w:=No 9999 hu hv hn
end
section
variable {P:Program} {n:Nat} {W:cV} {F:List Atom} {b:Bs} {E:Env} {g w:World} {s:Ov} {a:Act} {K:SV->Prop}
theorem GF {op:BinOp} {t:TypeId} {ox oy:Operand} {u v:Value} (hu:rZ (P.underlying t) u=true) (hc:u= .nilIface->v= .nilIface->(isConst ox|| isConst oy)=true):(eqGuard op t ox oy u v).run P w= .ok () w:=by
  unfold eqGuard;cases op<;>simp<;>cases u<;>(try rfl)<;>cases v<;>(try rfl)
  all_goals first
    | (cases hd:P.underlying t with
       | none=>rw [hd] at hu;cases hu
       | some d=>rw [hd] at hu;cases d<;>cases hu)
    | (have:=hc rfl rfl
       cases ox<;>cases oy<;>simp [isConst] at this ⊢)
theorem TO {op:BinOp} {t:TypeId} {ox oy:Operand} {u v:Value} {e:Bool} (he:isEq op=some e) (hu:rZ (P.underlying t) u=true) (hv:rZ (P.underlying t) v=true) (hn:iR v=true)
  (hc:u= .nilIface->v= .nilIface->(isConst ox|| isConst oy)=true):
  (do eqGuard op t ox oy u v;binOp op t u v:Sem Value).run P w= .ok (.bool (if e then iR u else !iR u)) w/\(do eqGuard op t ox oy v u;binOp op t v u:Sem Value).run P w= .ok (.bool (if e then iR u else !iR u)) w:=by
 obtain ⟨h1,h2⟩:=VG (P:=P) (w:=w) hu hv hn;have g1:=GF (op:=op) (ox:=ox) (oy:=oy) (w:=w) hu hc;have g2:=GF (P:=P) (op:=op) (ox:=ox) (oy:=oy) (w:=w) (u:=v) (v:=u) hv λa b=>hc b a;have b1:∀ x y:Value,rZ (P.underlying t) x=true->rZ (P.underlying t) y=true->binOp .eql t x y=(do pure (.bool (<-Op.equal t x y)))/\binOp .neq t x y=(do pure (.bool (!(<-Op.equal t x y)))):=λx y hx hy=>by
  cases hd:P.underlying t with
  | none=>rw [hd] at hx;cases x<;>cases hx
  | some d=>
   rw [hd] at hx hy;cases d<;>(try (cases x<;>cases hx;done))<;>cases x<;>(try (cases hx;done))<;>cases y<;>(try (cases hy;done))<;>exact ⟨rfl,rfl⟩
 unfold isEq at he;cases op<;>cases he;exact ⟨by rw [Sem.run_bind,g1,Result.andThen_ok,(b1 u v hu hv).1,Sem.run_bind,h1];rfl,by rw [Sem.run_bind,g2,Result.andThen_ok,(b1 v u hv hu).1,Sem.run_bind,h2];rfl⟩;exact ⟨by rw [Sem.run_bind,g1,Result.andThen_ok,(b1 u v hu hv).2,Sem.run_bind,h1];rfl,by rw [Sem.run_bind,g2,Result.andThen_ok,(b1 v u hv hu).2,Sem.run_bind,h2];rfl⟩
theorem HJ {e:Ty} {t:TypeId} {v:Value} {xs:List e.den} {l:List Atom} (H:SL W g w (py e t v xs::l)):(∃ q m c,v= .slice q m c/\(q=none->xs= [])):=by
 letI:=e.rep;have h:=SL.ae6 (α:=e.den) H;rcases dx.1 h with ⟨h1,h2⟩| ⟨q,c,h1,_⟩;exact ⟨none,0,0,h1,λ_=>h2⟩;exact ⟨some q,_,c,h1,λh=>by cases h⟩
theorem jY (S:dr n W F b E g w s a) {l:Nat} {v:Value} (h:E[l]?=some v) {t:TypeId} {e:Ty} {xs:List e.den} (ho:b.obj s l= .sl t e xs):SL W g w (py e t v xs::dD (bh E 0 (b.heap s)++F) l):=by
 have H:=S.pick h;rw [ho] at H;refine H.cE λk ⟨h1,h2,ap,q,⟨u,s1,s2⟩,s3⟩=>⟨h1,h2,ap,q,?_,s3⟩;rw [h] at s1;obtain rfl:=aj s1;exact s2
theorem lR (S:dr n W F b E g w s a) {l:Nat} {v:Value} (h:E[l]?=some v) {t:TypeId} {e:Ty} {xs:List e.den} (ho:b.obj s l= .held t e xs):oa e g v xs:=by
 have H:=S.pick h;rw [ho] at H;obtain ⟨k,_,_,_,h1,h2,ap,q,⟨u,s1,s2⟩,s3⟩:=H;rw [h] at s1;obtain rfl:=aj s1;exact s2
theorem oV (S:dr n W F b E g w s a) {l:Nat} {bb:Nat} (h:E[l]?=some (ptr bb 0)) {t:TypeId} {cs:List Cl} (ho:b.obj s l= .cells t cs):∃ us,bB E g cs us/\Hq w bb us.toArray t/\SL W g w (pg bb us.toArray t::dD (bh E 0 (b.heap s)++F) l):=by
 have H:=S.pick h;rw [ho] at H;obtain ⟨k,be,se,ow,h1,h2,ap,q,⟨b',us,s1,s2,s3⟩,s4⟩:=H;rw [h] at s1;have:bb=b':=by
  have:=aj s1;simp [ptr] at this;exact this
 subst this;have H':SL W g w (pg bb us.toArray t::dD (bh E 0 (b.heap s)++F) l):=⟨k,be,se,ow,h1,h2,ap,q,s3,s4⟩;exact ⟨us,s2,H'.Eh.2.1,H'⟩
theorem Sw (S:dr n W F b E g w s a) {d:Option TypeDesc} {x:Cl} {u:Value} {Jw e:Bool} (ht:YB d x=true) (r:cv E g x u) (h:adx b s Jw x e K):K (.bool (if e then iR u else !iR u))/\(u= .nilIface->Jw=true):=by
  unfold adx at h;split at h
  · rename_i hn
    unfold Sv at hn;split at hn<;>(try (cases hn;done))
    all_goals first
      | (obtain ⟨rfl,_⟩:=r
         simp only [isIface,pr,gO,dP,if_false] at h
         first
           | (cases Jw
              · simp at h
              · simp only [Bool.not_true,dP,if_false] at h
                cases e<;>exact ⟨h,λ_=>rfl⟩)
           | (cases e<;>exact ⟨h,λq=>by cases q⟩))
      | (split at hn<;>cases hn)
  · rename_i hn
    have hv:iR u=false/\u≠ .nilIface:=by
      unfold Sv at hn;split at hn<;>(try (cases hn;done))
      · obtain ⟨_,_,rfl⟩:=r;exact ⟨rfl,λq=>by cases q⟩
      · obtain ⟨h0,v,h1,h2⟩:=r
        obtain ⟨cs,h3,_⟩:=Ah h1 h0.1 h0.2.1;obtain ⟨q,hq,_⟩:=h3 g (bA.refl g);rw [h2,hq];exact ⟨rfl,λq=>by cases q⟩
      · obtain ⟨v,_,_,q,rfl⟩:=r;exact ⟨rfl,λq=>by cases q⟩
      · obtain ⟨_,_,rfl⟩:=r;exact ⟨rfl,λq=>by cases q⟩
      · obtain ⟨_,_,rfl⟩:=r;exact ⟨rfl,λq=>by cases q⟩
      · obtain ⟨_,_,rfl⟩:=r;exact ⟨rfl,λq=>by cases q⟩
      · split at hn<;>cases hn
    rw [hv.1];exact ⟨by cases e<;>exact h,λq=>absurd q hv.2⟩
  · rename_i p hn
    have hv:(iR u=true->p)/\u≠ .nilIface:=by
      unfold Sv at hn;split at hn<;>(try (cases hn;done))
      · cases hn
        obtain ⟨q,m,c,rfl,hq⟩:=nW r;exact ⟨λhz=>hq (by cases q<;>first| rfl| cases hz),λq=>by cases q⟩
      · split at hn<;>(try (cases hn;done))
        · cases hn
          rename_i ho;obtain ⟨q,m,c,rfl,hq⟩:=HJ (jY S r.1 ho);exact ⟨λhz=>hq (by cases q<;>first| rfl| cases hz),λq=>by cases q⟩
        · cases hn
          rename_i ho;obtain ⟨q,m,c,rfl,hq⟩:=nW (lR S r.1 ho);exact ⟨λhz=>hq (by cases q<;>first| rfl| cases hz),λq=>by cases q⟩
    exact ⟨h _ hv.1,λq=>absurd q hv.2⟩
  · exact h.elim
theorem vN {op:BinOp} {t:TypeId} {ox oy:Operand} {u v:Value} (h:(∃ k m k' m',u= .int k m/\v= .int k' m')\/(∃ x y,u= .string x/\v= .string y)\/(∃ x y,u= .bool x/\v= .bool y)):(eqGuard op t ox oy u v).run P w= .ok () w:=by
 rcases h with ⟨k,m,k',m',rfl,rfl⟩| ⟨x,y,rfl,rfl⟩| ⟨x,y,rfl,rfl⟩<;>cases op<;>simp [eqGuard]
theorem PR.bind {m:Sem Unit} {f:Sem Value} (h:m.run P w= .ok () w) (k:PR P f w E g K):PR P (do m;f) w E g K:=by
 obtain ⟨v,sv,h1,h2,h3⟩:=k;exact ⟨v,sv,by rw [Sem.run_bind,h];exact h1,h2,h3⟩
theorem L0 (S:dr n W F b E g w s a) {wr:Bool} {op:BinOp} {t:TypeId} {ox oy:Operand} {x y:SV} {u v:Value} (rx:dq E g x u) (ry:dq E g y v) (h:El wr P b s (isConst ox|| isConst oy) op t x y K):
  PR P (do eqGuard op t ox oy u v;binOp op t u v) w E g K:=by
 unfold El at h;split at h
 .obtain ⟨rfl,hx⟩:=ia rx;obtain ⟨rfl,hy⟩:=ia ry;refine PR.bind (vN (.inl ⟨_,_,_,_,rfl,rfl⟩)) ?_;split at h
  .rename_i k m k' q _;have e:(binOp .shl t (.int k m) (.int k' q))=pure (.int k (Aq k m q)):=by simp [binOp,Op.shift,Aq,Int.not_lt.2 h.1]
   rw [e];exact ⟨_,_,rfl,dB (ev _ _),h.2 (ev _ _)⟩
  .rename_i k m k' q _;have e:(binOp .shr t (.int k m) (.int k' q))=pure (.int k (kO k m q)):=by simp [binOp,Op.shift,kO,Int.not_lt.2 h.1]
   rw [e];exact ⟨_,_,rfl,dB (Nh hx),h.2 (Nh hx)⟩
  .split at h
   .rename_i hk;obtain rfl:=IntKind.eq_of_beq hk;exact LX hx h
   .cases h
 .obtain ⟨rfl,hx⟩:=rx;obtain ⟨rfl,hy⟩:=ry;exact PR.bind (vN (.inr (.inl ⟨_,_,rfl,rfl⟩))) (X2 h)
 .obtain ⟨rfl,hx⟩:=rx;obtain ⟨rfl,hy⟩:=ry;refine PR.bind (vN (.inr (.inr ⟨_,_,rfl,rfl⟩))) ?_;split at h
  .rename_i m q _ _ hu;exact ⟨_,_,run_eql_bool w t m q hu,gm _,h⟩
  .rename_i m q _ _ hu;exact ⟨_,_,run_neq_bool w t m q hu,gm _,h⟩
  .cases h
 .obtain ⟨us,hx,rfl⟩:=rx;obtain ⟨vs,hy,rfl⟩:=ry;split at h
  .rename_i fs hu;split at h
   .cases h
   .rename_i hg;simp only [Bool.not_eq_true,Bool.or_eq_false_iff] at hg;have hgd:(eqGuard op t ox oy (.agg us.toArray) (.agg vs.toArray)).run P w= .ok () w:=by
     cases op<;>simp [eqGuard,hg.1]
    refine PR.bind hgd ?_;have hfs:P.fieldsOf t=fs:=by unfold Program.fieldsOf;rw [hu]
    split at h
    .rename_i r hr hq;have he:=ov (w:=w) 9999 hq hx hy (az _);have h2:=run_equalIn_struct (P:=P) w 9999 t us.toArray vs.toArray (by rw [hfs];exact hu) hg.2;rw [hfs] at h2;unfold isEq at hr;cases op<;>cases hr;exact ⟨_,_,by rw [run_eql_struct,h2,he];rfl,gm _,h⟩
    .rename_i r hr hq;have he:=ov (w:=w) 9999 hq hx hy (az _);have h2:=run_equalIn_struct (P:=P) w 9999 t us.toArray vs.toArray (by rw [hfs];exact hu) hg.2;rw [hfs] at h2;unfold isEq at hr;cases op<;>cases hr;exact ⟨_,_,by rw [run_neq_struct,h2,he];rfl,gm _,h⟩
    .cases h
  .rename_i n e hu;split at h
   .cases h
   .rename_i hg;rw [Bool.not_eq_true] at hg;have hgd:(eqGuard op t ox oy (.agg us.toArray) (.agg vs.toArray)).run P w= .ok () w:=by
     cases op<;>simp [eqGuard,hg]
    refine PR.bind hgd ?_;split at h
    .rename_i r hr hq;have he:=FP (w:=w) (d:=9998) hu hq hx hy;unfold isEq at hr;cases op<;>cases hr;exact ⟨_,_,by rw [run_eql_struct,he];rfl,gm _,h⟩
    .rename_i r hr hq;have he:=FP (w:=w) (d:=9998) hu hq hx hy;unfold isEq at hr;cases op<;>cases hr;exact ⟨_,_,by rw [run_neq_struct,he];rfl,gm _,h⟩
    .cases h
  .cases h
 .split at h
  .rename_i e he;split at h
   .rename_i ht;rw [ao] at ht;obtain ⟨h1,h2⟩:=Sw S ht.2 rx h;obtain ⟨n1,n2⟩:=Gh ht.1 ry;exact ⟨_,_,(TO he (MD ht.2 rx) n1 n2 λq _=>h2 q).1,gm _,h1⟩
   .split at h
    .rename_i ht;rw [ao] at ht;obtain ⟨h1,h2⟩:=Sw S ht.2 ry h;obtain ⟨n1,n2⟩:=Gh ht.1 rx;exact ⟨_,_,(TO he (MD ht.2 ry) n1 n2 λq _=>h2 q).2,gm _,h1⟩
    .cases h
  .cases h
 .cases h
theorem RY {wr:Bool} {op:UnOp} {x:SV} {u:Value} (rx:dq E g x u) (h:unV wr op x K):PR P (Op.unary op u) w E g K:=by
 unfold unV at h;split at h
 .obtain ⟨rfl,_⟩:=rx;exact ⟨_,_,rfl,gm _,h⟩
 .rename_i k m;obtain ⟨rfl,hx⟩:=ia rx;have e:(Op.unary .neg (.int k m))=(binOp .sub 0 (.int k 0) (.int k m)):=by simp [Op.unary,Op.intArith,binOp]
  rw [e];exact LX (by cases k<;>exact ⟨by decide,by decide⟩) h
 .rename_i k m;obtain ⟨rfl,hx⟩:=ia rx;have e:(Op.unary .xor (.int k m))=pure (Value.int k (di .xor k (if k.signed then -1 else k.max) m)):=by simp [Op.unary,Op.intBits,di]
  rw [e];exact ⟨_,_,rfl,dB (ev _ _),h (ev _ _)⟩
 .cases h
end
section
variable {P:Program} {n:Nat} {W:cV} {F:List Atom} {b:Bs} {E:Env} {g w:World} {s:Ov} {a:Act} {K:SV->Prop}
theorem aaJ (v:Value) (i j:Nat):nA (nA v i) j=nA v (i+j):=by
 cases v with
 | pointer p=>
  cases p with
  | none=>rfl
  | some q=>simp [nA,Go.Deep.add_add]
 | _=>rfl
theorem Gr {g1:World} {k:Nat} {v:Value} {i:Int} {vs:List Value} {cs:List Cl} {t:TypeId} {off:Nat} {r:S1} (h:tC g1 k v i vs) (m:bA g1 w) (hc:bB E g cs vs) (hp:pY P t cs off=some r):
  ∃ u,(Instr.loadAt t (nA (jU k v i) off)).run P w= .ok u w/\gw E g r u:=by
 unfold pY at hp;split at hp;cases hp
 .rename_i d hd;split at hp
  .rename_i hr;split at hp
   .rename_i ie kF;split at hp
    .rename_i hle;obtain rfl:=aj hp;have hl:off+ie.size<=vs.length:=by rw [hc.length];exact cK hle
     exact ⟨_,D7 h m hd hr (by rw [kF];rfl) hl,_,(hc.drop off).take ie.size,rfl⟩
    .cases hp
   .cases hp
  .rename_i hr;split at hp
   .rename_i c Jn;obtain rfl:=aj hp;obtain ⟨u,h1,h2⟩:=hc.get Jn;exact ⟨u,r9 h m hd (by simpa using hr) h1,h2⟩
   .cases hp
theorem CM {bb:Nat} {us:List Value} {cs:List Cl} {t t':TypeId} {off:Nat} {r:S1} (h:Hq w bb us.toArray t') (hc:bB E g cs us) (hp:pY P t cs off=some r):
  ∃ u,(Instr.loadAt t (ptr bb off)).run P w= .ok u w/\gw E g r u:=by
 unfold pY at hp;split at hp;cases hp
 .rename_i d hd;split at hp
  .rename_i hr;split at hp
   .rename_i ie kF;split at hp
    .rename_i hle;obtain rfl:=aj hp;have hl:off+ie.size<=us.length:=by rw [hc.length];exact cK hle
     have hlen:((us.drop off).take ie.size).length=ie.size:=by simp;omega
     exact ⟨_,wA (vs:=(us.drop off).take ie.size) h hd hr (by rw [kF,hlen];rfl) (by rw [hlen]),_,(hc.drop off).take ie.size,rfl⟩
    .cases hp
   .cases hp
  .rename_i hr;split at hp
   .rename_i c Jn;obtain rfl:=aj hp;obtain ⟨u,h1,h2⟩:=hc.get Jn;exact ⟨u,HT h hd (by simpa using hr) (by simpa using h1),h2⟩
   .cases hp
theorem U8 {e:Ty} {t:TypeId} {v:Value} {xs:List e.den} {i:Int} {l:List Atom} (H:SL W g w (py e t v xs::l)) (h0:0<=i) (h1:i< xs.length):∃ cs,tC w e.size v i cs/\e.rep.rel g cs (aB e xs i):=by
 letI:=e.rep;obtain ⟨cs,h2,h3⟩:=Yq (α:=e.den) H h0 h1;have hs:aO.size e.den=e.size:=Ty.gz e;rw [hs] at h2;refine ⟨cs,h2,?_⟩;have:aB e xs i=xs[i.toNat]'(by omega):=by
  unfold aB;rw [aP,ak (by omega)];rfl
 rw [this];exact h3
theorem lO {P:Program} {t:TypeId} {k:Kk} (h:j7 P t k=true):P.underlying t=some (match k with| .int=>.int .i64| .str=>.string):=by
 unfold j7 at h;split at h
 .assumption
 .assumption
 .cases h
theorem w7 {P P':Program} {t:TypeId} {k:Kk} (h:j7 P t k=true) (h':j7 P' t k=true) (v:Value):keyOf P t v=keyOf P' t v:=by
 have hu:=lO h;have hu':=lO h';cases k<;>simp only [keyOf,hu,hu',mapKey]
theorem IZ {P P':Program} {t:TypeId} {k:Kk} (h:j7 P t k=true) (h':j7 P' t k=true) {bb:Nat} {m:List (k.den×Value)} {hh:Hp}:(@mapA k.den k.key P t bb m).sat g hh->(@mapA k.den k.key P' t bb m).sat g hh:=by
 letI:=k.key;rintro ⟨es,clock,h1,⟨⟨f1,f2,f3⟩,h3⟩⟩;have M0:∀ x,WideElems.rd P t eL x=WideElems.rd P' t eL x:=λx=>by unfold WideElems.rd;rw [w7 h h']
 refine ⟨es,clock,h1,⟨⟨f1,f2,λx hx=>by rw [<-M0];exact f3 x hx⟩,?_⟩⟩;have xc:WideElems.rg P' t eL=WideElems.rg P t eL:=funext λx=>by unfold WideElems.rg;rw [M0]
 rw [xc];exact h3
theorem AM {t:TypeId} {n:Nat} {k:IntKind} (h:L9 P t=some (n,k)):∃ e,P.underlying t=some (.array n e)/\(P.info? t).map (·.size)=some n/\8< n/\n<=1000000:=by
 unfold L9 at h;split at h
 .rename_i m e i hu hi;split at h
  .split at h
   .rename_i hc;simp only [ao] at hc;obtain ⟨h1,h2,h3,h4⟩:=hc;simp only [km,Prod.mk.injEq] at h;obtain ⟨rfl,rfl⟩:=h;exact ⟨e,hu,by rw [hi];exact congrArg some (ai h3),by simpa using h1,cK h2⟩
   .cases h
  .cases h
 .cases h
theorem Gw {k:IntKind}:∀ {cs:List (List Value)} {xs:List Int},@eF Int (Ty.int k).rep g cs xs->cs.flatten=xs.map (Value.int k ·)/\∀ n∈xs,aI k n
 | [],[],_=>⟨rfl,λ_ h=>by cases h⟩
 | c::cs,x::xs,⟨h1,h2⟩=>by
  obtain ⟨e1,e2⟩:=Gw h2;have h3:aI k x:=(eW ([]:Env) g (.int k) h1).2;have h4:c= [.int k x]:=h1.1;subst h4;refine ⟨by rw [bF,e1];rfl,λn hn=>?_⟩;rcases aX.1 hn with e| hn;rw [e];exact h3;exact e2 n hn
 | [],_::_,h=>h.elim
 | _::_,[],h=>h.elim
theorem Te {b n cap:Nat}:nA (jU 1 (.slice (some ⟨b,0,none⟩) n cap) 0) 0=ptr b 0:=by
 simp [jU,nA,Addr.add]
theorem TS {k:IntKind} {u:TypeId} {v:Value} {xs:List (Ty.int k).den} {l:List Atom} (H:SL W g w (py (.int k) u v xs::l)) (hz:0< xs.length):
  ∃ bb cap cur,v= .slice (some ⟨bb,0,none⟩) xs.length cap/\xs.length<=cap/\cap<=maxLen/\cur.size=cap/\cur.toList.take xs.length=xs.map (Value.int k ·)/\(∀ n∈xs,aI k n)/\SL W g w (Lm.pg bb cur u::l):=by
 letI:=(Ty.int k).rep;obtain ⟨cs,r,H1⟩:=H.py;obtain ⟨e1,e2⟩:=Gw r;rcases H1.ofRow with ⟨_,hn,_,_⟩| ⟨bb,cap,cur,rfl,q1,q2,q3,q4,H2⟩;omega
 .have hs:aO.size (Ty.int k).den=1:=rfl;rw [hs,Nat.mul_one] at q3 q4;exact ⟨bb,cap,cur,rfl,q1,q2,q3,by rw [q4];exact e1,e2,H2⟩
def Hp.sub (h k:Hp):Prop:=∀ b o,h b=some o->k b=some o
theorem Hp.sub.trans {h k m:Hp} (a:h.sub k) (b:k.sub m):h.sub m:=λx o e=>b x o (a x o e)
theorem Hp.sub.left (h k:Hp):h.sub (h.join k):=λ_ _ e=>Hp.fK e
theorem Hp.sub.right {h k:Hp} (a:h.apart k):k.sub (h.join k):=λb o e=>by
 rw [Hp.join_comm a];exact Hp.fK e
theorem BT {g:World} {A:Atom}:∀ {L:List Atom} {h:Hp},A∈L->bt g L h->∃ h',h'.sub h/\A.sat g h'
 | B::L,h,hA,⟨h1,h2,ap,e,s1,s2⟩=>by
  subst e;rcases aX.1 hA with rfl| hA;exact ⟨h1,Hp.sub.left _ _,s1⟩
  .obtain ⟨h',i,s⟩:=BT hA s2;exact ⟨h',i.trans (Hp.sub.right ap),s⟩
theorem T0 (S:dr n W F b E g w s a) {l mb:Nat} {v:Value} (h:E[l]?=some v) {kt tR:TypeId} {e:Ty} {M:List (Int×Nat×e.den)} {hz:Hp} (ho:b.obj s l= .ab (.pz kt tR e M hz mb)):v=ptr mb 0/\SL W g w (⟨λg h=>h=hz/\(pmA kt tR e M (ptr mb 0)).sat g h,λm ⟨h1,h2⟩=>⟨h1,Atom.mono _ m h2⟩⟩::dD (bh E 0 (b.heap s)++F) l):=by
 have H:=S.pick h;rw [ho] at H;obtain ⟨k,be,se,ow,h1,h2,ap,q,⟨v',s1,hv,SR,s3⟩,s4⟩:=H;rw [h] at s1;obtain rfl:=aj s1;subst hv;exact ⟨rfl,k,be,se,ow,h1,h2,ap,q,⟨SR,s3⟩,s4⟩
theorem ajX (S:dr n W F b E g w s a) {l mb:Nat} {v:Value} (h:E[l]?=some v) {kt tR:TypeId} {e:Ty} {M:List (Int×Nat×e.den)} {hz:Hp} (ho:b.obj s l= .ab (.pz kt tR e M hz mb)) {p:Int×Nat×e.den} (hp:p∈M):∃ us,e.rep.rel g us p.2.2/\Hq w p.2.1 us.toArray tR:=by
 obtain ⟨_,k,be,se,ow,h1,h2,ap,rfl,⟨_,s3⟩,s4⟩:=T0 S h ho;obtain ⟨x,h3,h4,ap2,e2,_,s5⟩:=s3;obtain ⟨h5,i5,us,h6,h7⟩:=BT (A:=tj tR e p) (aG _ (aM.2 ⟨p,hp,rfl⟩)) s5;have e3:h4.sub h1:=λb o q=>by rw [e2];exact Hp.sub.right ap2 b o q
 exact ⟨us,h6,(ow p.2.1 _ (Hp.fK (e3 _ _ (i5 _ _ h7)))).2.1⟩
theorem abN (S:dr n W F b E g w s a) {l q:Nat} {v:Value} (h:E[l]?=some v) {t:TypeId} {e:Ty} {xs:List e.den} {i:Int} {off:Nat} (ho:b.obj s l= .qk (.sf t e xs i off) q):∃ vn,E[q]?=some vn/\SL W g w (sfA t e xs i off v vn::dD (bh E 0 (b.heap s)++F) l):=by
 have H:=S.pick h;rw [ho] at H;obtain ⟨k,be,se,ow,h1,h2,ap,e1,⟨v',vn,s1,s2,s3⟩,s4⟩:=H;rw [h] at s1;obtain rfl:=aj s1;exact ⟨vn,s2,k,be,se,ow,h1,h2,ap,e1,s3,s4⟩
theorem S8 {z:Nat} {u:Value}:∀ {cs:List (List Value)} {i j:Nat} {r:List Value},(∀ x∈cs,x.length=z)->cs[i]?=some r->r[j]?=some u->cs.flatten[i*z+j]?=some u
 | [],_,_,_,_,h,_=>by simp at h
 | c::cs,0,j,r,_,h1,h2=>by
  obtain rfl:c=r:=by simpa using h1
  rw [bF,Nat.zero_mul,cd,aU (av.1 h2).1];exact h2
 | c::cs,i+1,j,r,hz,h1,h2=>by
  have hc:c.length=z:=hz c (by simp);have:=S8 (i:=i) (λx hx=>hz x (aG _ hx)) (by simpa using h1) h2;rw [bF,aZ (by rw [fj];omega),fj,hc,show i*z+1*z+j - z=i*z+j by omega];exact this
theorem akQ {t:TypeId} {e:Ty} {v vn:Value} {xs:List e.den} {i:Int} {off:Nat} {l:List Atom} (H:SL W g w (sfA t e xs i off v vn::l)):∃ cs,tC w e.size v i cs/\cs[off]?=some vn/\∃ a n c,vn= .slice a n c:=by
 obtain ⟨k,be,se,ow,h1,h2,ap,e1,⟨cs,s1,⟨q1,q2,q3,q4,q5⟩,⟨q6,r,r1,r2⟩,_⟩,s4⟩:=H;have H1:SL W g w (ur t e.size v xs.length cs.flatten::l):=⟨k,be,se,ow,h1,h2,ap,e1,s1,s4⟩;have rS:=H1.row;rcases rS.2 with ⟨_,hn⟩| ⟨kb,cap,cur,rfl,_⟩;omega
 .refine ⟨r,λw2 m=>⟨(⟨kb,0,none⟩:Addr).add (i.toNat*e.size),rfl,λj u hj=>?_⟩,r2,q6⟩;rw [Go.Deep.add_add];exact m _ _ (rS.cells (g:=kb) rfl _ u (S8 q1 r1 hj))
theorem xW (S:dr n W F b E g w s a) {t:TypeId} {x:Cl} {u:Value} (rx:cv E g x u) (h:sS P b s t x K):PR P (Instr.loadAt t u) w E g K:=by
 unfold sS at h;split at h
 .obtain ⟨bb,hE,rfl⟩:=rx;split at h
  .rename_i ho;split at h
   .rename_i r hr;obtain ⟨us,h1,h2,_⟩:=oV S hE ho;obtain ⟨v,h3,h4⟩:=CM h2 h1 hr;exact ⟨v,.v r,h3,h4,h⟩
   .cases h
  .cases h
 .obtain ⟨⟨x,hE⟩,rfl,_⟩:=rx;split at h
  .rename_i ho;obtain ⟨p,hp,hb,h⟩:=h;subst hb;split at h
   .rename_i r' hr;obtain ⟨us,h1,h2⟩:=ajX S hE ho hp;obtain ⟨h4,h5⟩:=eW E g _ h1;obtain ⟨v,h3,h6⟩:=CM h2 h4 hr;exact ⟨v,.v r',h3,h6,h h5⟩
   .cases h
  .cases h
 .obtain ⟨h0,v,h1,rfl⟩:=rx;split at h
  .rename_i r hr;obtain ⟨cs,h2,h3⟩:=Ah h1 h0.1 h0.2.1;obtain ⟨h4,h5⟩:=eW E g _ h3;obtain ⟨q,h6,h7⟩:=Gr h2 S.m h4 hr;exact ⟨q,.v r,h6,h7,h h5⟩
  .cases h
 .obtain ⟨v,hE,rfl,_⟩:=rx;split at h
  .rename_i ho;split at h
   .rename_i n k ha;split at h
    .rename_i ys Jj;obtain ⟨q,hy⟩:=eA Jj;subst q;subst hy;obtain ⟨hc,h⟩:=dc h;simp only [ao] at hc;obtain ⟨DV,hlen,h⟩:=h;obtain ⟨e,hu,kE,hn,_⟩:=AM ha;have hlen:_=n:=hlen;obtain ⟨bb,cap,cur,rfl,q1,q2,q3,q4,q5,H2⟩:=TS (jY S hE ho) (by rw [hlen];omega);rw [ai hc.1,ai hc.2,DV,Te];refine ⟨_,.arr k _,wA (H2.pg 0) hu rfl (vs:=List.map (Value.int k ·) _) (by rw [kE,bL,hlen]) (by rw [List.drop_zero,bL];exact q4),⟨rfl,q5⟩,h⟩
    .cases h
   .split at h
    .rename_i kE;obtain ⟨h0,h1,h⟩:=h;split at h
     .rename_i r hr;obtain ⟨cs,h2,h3⟩:=U8 (jY S hE ho) h0 h1;obtain ⟨h4,h5⟩:=eW E g _ h3;obtain ⟨q,h6,h7⟩:=Gr h2 (bA.refl w) h4 hr;rw [ai kE] at h6;exact ⟨q,.v r,h6,h7,h h5⟩
     .cases h
    .cases h
  .rename_i ho;split at h
   .rename_i hu;have hQ:=dc h;clear h;obtain ⟨hc,rfl,h⟩:=hQ;rw [ao] at hc;obtain ⟨vn,hq,H⟩:=abN S hE ho;obtain ⟨cs,h2,h3,h4⟩:=akQ H;rw [<-ai hc.1,ai hc.2];exact ⟨vn,.c (.o _),r9 h2 (bA.refl w) hu rfl h3,⟨hq,h4⟩,h⟩
   .cases h
  .cases h
 .cases h
end
end Go.Lm

