/- Texts of mine, laid together: LmKA LmSaid LmKB LmVa LmK3 LmVb LmVc LmVd LmVe LmEqS LmEqB LmVf LmVg LmVh. -/
import Derived.WalkKit
import Derived.WalkSpells
import Derived.WalkLawsBesides
import Derived.Deep.Quiet
import Derived.Deep.MidRow
import Derived.KernelRfl
import Derived.ProofKit
import Derived.OpenShut
import Derived.ShutString
import Derived.ChangeOld
import Derived.Deep.Slices
import Derived.Deep.Fields
import Derived.ChangeSame
import Derived.Laws.RangeAny
import Derived.Lib.OthersKept
import Derived.Maps.Own
import Derived.Maps.OwnSet
import Derived.Maps.Range
import Derived.Maps.RangeWalk
import Derived.Laws.OwnMore
import Derived.Laws.MakeOwn
import Derived.Laws.CopyRow
import Derived.Laws.BytesArg
import Derived.Laws.IdiomStrings
import Derived.Lib.ConvBytes
import Derived.WideKeyArr
import Derived.WideKeyMaps
import Derived.ChangeKeysEq
import Derived.Laws.StructEq
import Derived.Laws.Cover3
import Derived.Laws.Pointers
import Derived.Laws.Small
set_option linter.unusedVariables false
open Array renaming getElem?_eq_some_iff → aQ, getD_eq_getD_getElem? → bZ, getElem?_eq_getElem → cK, length_toList → dq, getElem?_toList → eS, getElem?_eq_none → il, getElem?_modify → iL, getElem?_setIfInBounds_ne → ke
open Bool renaming and_eq_true → ao, not_eq_true' → bY, false_eq_true → eR, or_eq_true → lp, false_and → mI
open Int renaming toNat_natCast → aU, le_refl → bz, natCast_nonneg → jv
open Go.IntKind renaming signed → eH, bits → gY, max → kc
open List renaming length_append → af, getElem?_eq_getElem → ak, length_cons → aq, getElem?_eq_some_iff → au, replicate → av, length_take → aA, append_assoc → aG, mem_cons_of_mem → aH, eq_nil_of_length_eq_zero → aJ, length_nil → aM, length_drop → aN, mem_map → aP, take_of_length_le → aT, getElem?_append_left → aV, mem_append → aY, getElem?_append_right → a8, getD_eq_getElem?_getD → ba, mem_cons → bm, all_eq_true → bo, length_map → bH, flatten_cons → bI, range → bN, map_cons → bX, getElem?_map → ck, take_append_drop → cv, getElem?_eq_none → dx, mem_iff_getElem → dR, getElem?_take → ez, nodup_cons → eB, take_take → eF, take_length → eN, map_append → eQ, flatten_append → eU, mem_of_getElem? → fc, mem_filter → fO, length_set → gE, drop_take → jk, find?_eq_none → ju, flatMap_cons → j9, filter_eq_self → ka, filter_cons → lU, pairwise_map → mL, getElem?_range → nD, mem_of_find?_eq_some → pC, drop_zero → pD
open Nat renaming eq_of_beq_eq_true → ai, le_refl → ay, zero_add → bW, le_of_ble_eq_true → cH, add_mul → fg, blt → gn, mul_le_mul_right → gR, add_zero → jP, lt_trichotomy → mK
open Option renaming map_some → js, bind_some → oU
open Option.some renaming inj → aj, injEq → j8
open UInt8 renaming ofNat → az
noncomputable section
namespace Go.Lm
open Go Go.RowKit

abbrev AL:=List (Nat×Value)
theorem ij {a b:Nat} (h:¬a=b):Nat.beq a b=false:=by
 cases hb:Nat.beq a b with
 | false=>rfl
 | true=>exact absurd (ai hb) h
def Sg (o:Oper):Bool:=match o.op with| .select .. =>false| _=>true
def Hs (P:Program) (f:FuncId) (args:Array Value) (w:World) (R:Value->World->Prop):Prop:=Calls P f args w λe w'=>∃ v,e= .returned v/\R v w'
section
variable {P:Program} {ops:Array Oper} {rest:List Oper} {o:Oper} {n:Nat} {s:AL} {Q:Exit->Act->World->Prop} {w:World}

end
end Go.Lm
namespace Go.Lm
open Go Go.RowKit

def Le (w w':World):Prop:=Below w.heap.size w w'
theorem Le.refl (w:World):Le w w:=Below.refl _ _
theorem Le.trans {a b c:World} (h:Le a b) (k:Le b c):Le a c:=Below.trans h (Below.mono k h.size)
theorem Le.drew (w:World):Le w w.drew:=(Below.refl _ _).drew
theorem Le.jw {w w':World} (h:Le w w') {k:Nat} {x:Obj} (hx:w.heap[k]?=some x):w'.heap[k]?=some x:=by
 rw [h.block k (aQ.1 hx).1];exact hx
def reach (ops:Array Oper):Nat->Nat->Nat->Bool
 | 0,_,_=>false
 | f+1,j,i=>match ops[j]? with
  | none=>false
  | some o=>o.after.any λe=>Region.binds .any e&& (Nat.beq e.on i|| reach ops f e.on i)
def Jv (ops:Array Oper):Bool:=(bN ops.size).all λi=>match ops[i]? with
 | none=>true
 | some o=>(o.after.all λe=> !Region.binds .any e|| gn e.on i)&& Sg o
def P3 (ops:Array Oper) (n:Nat):Bool:=(bN ops.size).all λi=>match (ops[i]?).bind (·.dst) with
 | none=>true
 | some d=>gn d n&& (bN i).all λj=>match (ops[j]?).bind (·.dst) with
  | none=>true
  | some d'=> !Nat.beq d' d
section
variable {P:Program}
theorem filter_lt {p q:Nat->Bool}:∀ (l:List Nat),(∀ x∈l,q x=true->p x=true)->∀ i∈l,p i=true->q i=false->(l.filter q).length< (l.filter p).length
 | [],_,i,hi,_,_=>by cases hi
 | x::l,h,i,hi,hp,hq=>by
  have hle:(l.filter q).length<=(l.filter p).length:=by
   have this:∀ y∈l,q y=true->p y=true:=λy hy=>h y (aH x hy);clear h hi
   induction l with
   | nil=>simp
   | cons y l ih=>
    have h1:=this y (by simp);have h2:=ih (λz hz=>this z (aH y hz));simp only [lU];by_cases hy:q y=true;simp [hy,h1 hy];exact h2
    .by_cases CT:p y=true
     .simp [hy,CT];omega
     .simp [hy,CT];exact h2
  rcases bm.1 hi with rfl| pB;simp [hp,hq];omega
  .have ih:=filter_lt l (λy hy=>h y (aH x hy)) i pB hp hq;simp only [lU];by_cases hx:q x=true
   .simp [hx,h x (by simp) hx];exact ih
   .by_cases Gz:p x=true
    .simp [hx,Gz];omega
    .simp [hx,Gz];exact ih
theorem qu {ops:Array Oper} {listed:Array Bool} (hc:∀ (j:Nat) (o:Oper),ops[j]?=some o->listed.getD j false=true->∀ e∈o.after,Region.binds .any e=true->listed.getD e.on false=true):
  ∀ f j i,reach ops f j i=true->listed.getD j false=true->listed.getD i false=true
 | 0,_,_,h,_=>by simp [reach] at h
 | f+1,j,i,h,hj=>by
  unfold reach at h;cases ho:ops[j]? with
  | none=>simp [ho] at h
  | some o=>
   simp only [ho] at h;obtain ⟨k,hk,hb⟩:=Array.any_eq_true.1 h;simp only [ao,lp] at hb;have hl:=hc j o ho hj _ (Array.getElem_mem hk) hb.1;rcases hb.2 with he| he;rw [<-ai he];exact hl;exact qu hc f _ _ he hl
theorem tC (m j:Nat):(Array.replicate m false).getD j false=false:=by
 by_cases h:j< m;simp [bZ,h];simp [bZ,h]
end
end Go.Lm
namespace Go.Lm
open Go Go.RowKit

def Ht (w:World) (b:Nat) (cs:Array Value) (t:TypeId):Prop:=w.heap[b]?=some (.cells cs t (0,0))
abbrev ptr (b o:Nat):Value:=.pointer (some ⟨b,o,none⟩)
structure xy (w:World) (b:Nat) (o:Obj) (w':World):Prop where
 eq:w'=w.alloc o
 at_:b=w.heap.size
structure Wg (w:World) (b:Nat) (cs:Array Value) (w':World):Prop where
 eq:w'=w.setRow b cs
 lt:b< w.heap.size
theorem xy.mk' (w:World) (o:Obj):xy w w.heap.size o (w.alloc o):=⟨rfl,rfl⟩
theorem xy.le {w w':World} {b:Nat} {o:Obj} (h:xy w b o w'):Le w w':=by
 rw [h.eq];exact (Below.refl _ _).alloc (ay _) o
theorem xy.here {w w':World} {b:Nat} {o:Obj} (h:xy w b o w'):w'.heap[b]?=some o:=by
 rw [h.eq,h.at_];exact heap_alloc_new w o
theorem xy.jw {w w':World} {b k:Nat} {o x:Obj} (h:xy w b o w') (hx:w.heap[k]?=some x):w'.heap[k]?=some x:=h.le.jw hx
theorem xy.below {w w' a:World} {b B:Nat} {o:Obj} (h:xy w b o w') (hb:Below B a w) (hB:B<=b):Below B a w':=by
 rw [h.eq];exact hb.alloc (by rw [<-h.at_];exact hB) o
theorem Uz (w:World) (b k:Nat) (cs:Array Value) (h:k≠b):(w.setRow b cs).heap[k]?=w.heap[k]?:=by
 simp only [World.setRow,iL];rw [if_neg (Ne.symm h)]
theorem Wg.below {w w' a:World} {b B:Nat} {cs:Array Value} (h:Wg w b cs w') (hb:Below B a w) (hB:B<=b):Below B a w':=by
 rw [h.eq];exact hb.trans ⟨rfl,rfl,rfl,by rw [setRow_size];exact ay _,λk hk=>Uz w b k cs (by omega)⟩
theorem Le.below {a w w':World} {B:Nat} (h:Le w w') (hb:Below B a w) (hB:B<=w.heap.size):Below B a w':=hb.trans (h.mono hB)
theorem Ht.lt {w:World} {b:Nat} {cs:Array Value} {t:TypeId} (h:Ht w b cs t):b< w.heap.size:=(aQ.1 h).1
theorem Ht.cell {w:World} {b:Nat} {cs:Array Value} {t:TypeId} (h:Ht w b cs t) (i:Nat):w.cell? ⟨b,i,none⟩=cs[i]?:=by unfold Ht at h;simp [World.cell?,h]
section
variable {P:Program} {w:World} {ρ:Operand->Value} {o:Oper}

theorem HU {b off:Nat} {cs:Array Value} {t t':TypeId} {d:TypeDesc} {v:Value} (hb:Ht w b cs t') (hu:P.underlying t=some d) (hd:d.isRow=false) (hv:cs[off]?=some v):
  (Instr.loadAt t (ptr b off)).run P w= .ok v w:=by
 have Jr:(isAgg t).run P w= .ok false w:=by
  unfold isAgg;rw [Sem.run_bind,run_underlying hu w];cases d<;>simp_all
 have hc:=hb.cell off;rw [hv] at hc;simp [Instr.loadAt,Instr.sureAddr,loadVar,Jr,run_load,hc]
theorem wo {b off:Nat} {cs:Array Value} {t t':TypeId} {d:TypeDesc} {vs:List Value} (hb:Ht w b cs t') (hu:P.underlying t=some d) (hd:d.isRow=true)
  (hi:(P.info? t).map (·.size)=some vs.length) (hv:(cs.toList.drop off).take vs.length=vs):(Instr.loadAt t (ptr b off)).run P w= .ok (.agg vs.toArray) w:=by
 refine run_loadAt_mid w b off t vs d (λj v hj=>?_) hu hd hi;rw [hb.cell,<-eS];have Oh:j< vs.length:=(au.1 hj).1;rw [<-hv,ez,if_pos Oh,List.getElem?_drop] at hj;exact hj
theorem kg {b off:Nat} {cs:Array Value} {t t':TypeId} {v:Value} (hb:Ht w b cs t') (hi:(P.info? t).map (·.size)=some v.cells.size) (h1:v.cells.toList.all (·.oneCell')=true)
  (hl:off+v.cells.size<=cs.size):
  (Instr.storeAt t (ptr b off) v).run P w= .ok () (w.setRow b (cs.toList.take off++v.cells.toList++cs.toList.drop (off+v.cells.size)).toArray):=by
 cases hq:P.info? t with
 | none=>simp [hq] at hi
 | some i=>
  have hs:i.size=v.cells.size:=by simpa [hq] using hi
  have CU:=run_storeCells_at P b off t' v.cells.toList 0 cs w hb (by simpa using hl) (λx hx=>bo.1 h1 x hx);simp only [jP,dq] at CU;simp [Instr.storeAt,Instr.sureAddr,storeVar,sizeOf,typeInfo,hq,hs,CU]
theorem afJ {t:TypeId} {x:Operand} {v:Value} (ho:o.op= .box t x) (hx:ρ x=v):(execOp ρ o).run P w= .ok (.value (ptr w.heap.size 0)) (w.alloc (.cells v.cells t)):=by
 simp [execOp,ho,hx,Instr.box,newVar,newRow,go_sem]
theorem TK {t:TypeId} {i:TypeInfo} {z:Value} (ho:o.op= .alloc t) (hi:P.info? t=some i) (hz:i.zero=some z):(execOp ρ o).run P w= .ok (.value (ptr w.heap.size 0)) (w.alloc (.cells z.cells t)):=by
 simp [execOp,ho,Instr.alloc,zeroValue,typeInfo,hi,hz,newVar,newRow,go_sem]
end

section
variable {P:Program} {ops:Array Oper} {rest:List Oper} {o:Oper} {n:Nat} {s:AL} {Q:Exit->Act->World->Prop} {w:World}

end

theorem Le.Qp {w w' a:World} (h:Le w w') (hb:Below a.heap.size a w):Below a.heap.size a w':=h.below hb hb.size
theorem adP {P:Program} {w:World} {d:Nat} {xs ys:Array Value} {f:Field} {fs:List Field} {k:IntKind} {m n:Int} {b:Bool} (hn:(f.name != "_")=true) (hu:P.underlying f.type=some (.int k)) (hi:((P.info? f.type).map (·.size))=some 1)
  (hx:xs[f.offset]?=some (.int k m)) (hy:ys[f.offset]?=some (.int k n)) (hr:(Op.eqFields (d+1) xs ys fs).run P w= .ok b w):(Op.eqFields (d+1) xs ys (f::fs)).run P w= .ok ((m==n)&& b) w:=by
 have hpx:(part f.type xs f.offset).run P w= .ok (.int k m) w:=by
  cases hq:P.info? f.type with
  | none=>simp [hq] at hi
  | some i=>simp [part,isAgg,run_underlying hu,go_sem,hx]
 have YV:(part f.type ys f.offset).run P w= .ok (.int k n) w:=by
  cases hq:P.info? f.type with
  | none=>simp [hq] at hi
  | some i=>simp [part,isAgg,run_underlying hu,go_sem,hy]
 have gx:f.name≠ "_" :=by simpa using hn
 simp only [Op.eqFields,if_pos gx,Sem.run_bind,hpx,YV,Result.andThen_ok,run_equalIn_int w d f.type k k m n hu];cases hb:m==n;simp [go_sem];simp [hr]
theorem adO {P:Program} {w:World} {d:Nat} {xs ys:Array Value}:(Op.eqFields d xs ys []).run P w= .ok true w:=by simp [Op.eqFields]
end Go.Lm
namespace Go.Lm
open Go Go.RowKit Go.WideShapes Go.ChangeShapes

end Go.Lm
namespace Go.Lm
open Go Go.RowKit Go.ChangeShapes Go.WideShapes

def bx (w w':World):Prop:=∀ (a:Addr) (v:Value),w.cell? a=some v->w'.cell? a=some v
theorem bx.refl (w:World):bx w w:=λ_ _ h=>h
theorem bx.trans {a b c:World} (h:bx a b) (k:bx b c):bx a c:=λx v hx=>k x v (h x v hx)
theorem Le.ae2 {w w':World} (h:Le w w'):bx w w':=λa v hc=>by rw [Below.cell h (World.block_lt_of_cell? w a hc)];exact hc
structure ri (g w:World):Prop where
 size:g.heap.size<=w.heap.size
 mono:bx g w
theorem ri.refl (w:World):ri w w:=⟨ay _,bx.refl w⟩
theorem ri.le {g w w':World} (h:ri g w) (hl:Le w w'):ri g w':=⟨Nat.le_trans h.size hl.size,h.mono.trans hl.ae2⟩
def tm (g:World) (b:Nat):Prop:=∀ (a:Addr),a.block=b->g.cell? a=none
theorem xy.akO {g w w':World} {b:Nat} {o:Obj} (h:xy w b o w') (hs:ri g w):tm g b:=λa ha=>by
 cases hc:g.cell? a with
 | none=>rfl
 | some v=>
  have:=World.block_lt_of_cell? g a hc;have h1:=hs.size;rw [ha,h.at_] at this;omega
def oE (g w w':World):World:= {w' with heap:=Array.ofFn (n:=w'.heap.size) λk=>if k.val< w.heap.size then (g.heap[k.val]?).getD (.map #[] 0) else w'.heap[k.val]}
theorem tW {g w w':World} (_hs:ri g w) (hl:w.heap.size<=w'.heap.size) (a:Addr) (ha:a.block< w.heap.size):(oE g w w').cell? a=g.cell? a:=by
 unfold World.cell? oE;have eK:a.block< w'.heap.size:=by omega
 simp only [Array.getElem?_ofFn,eK,dif_pos,ha,if_true];cases hg:g.heap[a.block]? with
 | none=>simp
 | some o=>simp
theorem GK {g w w':World} (a:Addr) (ha:w.heap.size<=a.block):(oE g w w').cell? a=w'.cell? a:=by
 unfold World.cell? oE;by_cases eK:a.block< w'.heap.size
 .simp only [Array.getElem?_ofFn,eK,dif_pos];rw [if_neg (by omega)];simp [eK]
 .simp [eK]
theorem PT (g w w':World):(oE g w w').heap.size=w'.heap.size:=by simp [oE]
theorem PU {g w w':World} (hs:ri g w) (hl:Le w w'):ri (oE g w w') w':=by
 refine ⟨by rw [PT];exact ay _,λa v hv=>?_⟩;by_cases ha:a.block< w.heap.size
 .rw [tW hs hl.size a ha] at hv;exact hl.ae2 a v (hs.mono a v hv)
 .rw [GK a (by omega)] at hv;exact hv
theorem C0 {g w w':World} (hs:ri g w) (hl:Le w w'):bx g (oE g w w'):=λa v hv=>by
 have ha:a.block< w.heap.size:=Nat.lt_of_lt_of_le (World.block_lt_of_cell? g a hv) hs.size;rw [tW hs hl.size a ha];exact hv
theorem M9 {g w w':World} {b:Nat} (hs:ri g w) (hl:Le w w') (hb:b< w.heap.size) (hn:tm g b):tm (oE g w w') b:=λa ha=>by
 rw [tW hs hl.size a (by omega)];exact hn a ha
def Agr (g₀ w₀ g:World):Prop:=∀ (a:Addr),a.block< w₀.heap.size->g.cell? a=g₀.cell? a
theorem Agr.refl (g w:World):Agr g w g:=λ_ _=>rfl
theorem Agr.oE {g₀ w₀ g w w':World} (h:Agr g₀ w₀ g) (hs:ri g w) (hl:Le w w') (h0:w₀.heap.size<=w.heap.size):Agr g₀ w₀ (oE g w w'):=λa ha=>by
 rw [tW hs hl.size a (by omega)];exact h a ha
class aO (α:Type) where
 size:Nat
 agg:Bool
 rel:World->List Value->α->Prop
 mono:∀ {w w':World} {cs:List Value} {x:α},bx w w'->rel w cs x->rel w' cs x
 len:∀ {w:World} {cs:List Value} {x:α},rel w cs x->cs.length=size
def Is {α:Type} [aO α] (w:World) (v:Value) (x:α):Prop:=
 if (aO.agg α) then ∃ cs,v= .agg cs/\aO.rel w cs.toList x else aO.rel w [v] x
theorem Is.mono {α:Type} [aO α] {w w':World} {v:Value} {x:α} (hl:bx w w') (h:Is w v x):Is w' v x:=by
 unfold Is at*;split at h
 .rename_i ha;rw [if_pos ha];obtain ⟨cs,hv,hr⟩:=h;exact ⟨cs,hv,aO.mono hl hr⟩
 .rename_i ha;rw [if_neg ha];exact aO.mono hl h
instance:aO Int where
 size:=1
 agg:=false
 rel _ cs n:=cs= [.int .i64 n]/\(Lit.int .i64 n).wf=true
 mono _ h:=h
 len h:=by rw [h.1];rfl
instance:aO Bool where
 size:=1
 agg:=false
 rel _ cs b:=cs= [.bool b]
 mono _ h:=h
 len h:=by rw [h];rfl
instance:aO UInt8 where
 size:=1
 agg:=false
 rel _ cs b:=cs= [.int .u8 b.toNat]
 mono _ h:=h
 len h:=by rw [h];rfl
instance:aO ByteArray where
 size:=1
 agg:=false
 rel _ cs s:=cs= [.string s]/\s.size<=maxLen
 mono _ h:=h
 len h:=by rw [h.1];rfl
def ami {α:Type} [aO α] (w:World) (v:Value) (xs:List α):Prop:=
 (v= .slice none 0 0/\xs= [])\/
 ∃ (a:Addr) (cap:Nat),v= .slice (some a) xs.length cap/\xs.length<=cap/\cap<=maxLen/\
  ∀ (i:Nat) (x:α),xs[i]?=some x->∃ cs:List Value,(∀ (j:Nat) (c:Value),cs[j]?=some c->w.cell? (a.add (i*aO.size α+j))=some c)/\aO.rel w cs x
instance {α:Type} [aO α]:aO (List α) where
 size:=1
 agg:=false
 rel w cs xs:=∃ v,cs= [v]/\ami w v xs
 mono:=by
  rintro w w' cs x hl ⟨v,rfl,h⟩;refine ⟨v,rfl,?_⟩;rcases h with h| ⟨a,cap,hv,h1,h2,h3⟩;exact .inl h
  .refine .inr ⟨a,cap,hv,h1,h2,λi x hx=>?_⟩;obtain ⟨cs,hc,hr⟩:=h3 i x hx;exact ⟨cs,λj c hj=>hl _ c (hc j c hj),aO.mono hl hr⟩
 len:=by rintro w cs x ⟨v,rfl,_⟩;rfl
theorem dv {α:Type} [aO α] {w:World} {v:Value} {xs:List α}:Is w v xs↔ami w v xs:=by
 simp [Is,aO.agg,aO.rel]
def Ah (P:Program) (t:TypeId) (α:Type) [aO α]:Prop:=
 ∀ {H:Type} (enc:TypeId×Value->H) (w:World) (base:Nat) (spare:Nat->Bool) (held:Bool) (fuel:Nat) (cs:List Value) (y:DataW H×List MemPlace),DataW.trod enc P w base spare held fuel t cs=some y->∃ x:α,aO.rel w cs x
section
variable {P:Program}
theorem UY {t:TypeId} (ht:P.underlying t=some (.int .i64)):Ah P t Int:=λ_ _ _ _ _ _ _ _ h=>by
 obtain ⟨n,hc,_,hw⟩:=DataW.trod_int ht h;exact ⟨n,hc,hw⟩
theorem Pg {t:TypeId} (ht:P.underlying t=some .bool):Ah P t Bool:=λ_ _ _ _ _ _ _ _ h=>by
 obtain ⟨b,hc,_⟩:=DataW.trod_bool ht h;exact ⟨b,hc⟩
theorem Pf {t:TypeId} (ht:P.underlying t=some (.int .u8)):Ah P t UInt8:=λ_ _ _ _ _ _ cs _ h=>by
 obtain ⟨n,hc,_,hw⟩:=DataW.trod_int ht h;have hb:0<=n/\n<=255:=by
  simp [Lit.wf,IntKind.min,kc,eH,gY] at hw;omega
 refine ⟨az n.toNat,?_⟩;have:((az n.toNat).toNat:Int)=n:=by
  simp [UInt8.toNat_ofNat'];omega
 show cs= [.int .u8 _];rw [this];exact hc
theorem UX {t:TypeId} (ht:P.underlying t=some .string):Ah P t ByteArray:=λ_ _ _ _ _ _ _ _ h=>by
 obtain ⟨s,hc,_,hs⟩:=DataW.trod_string ht h;exact ⟨s,hc,hs⟩
theorem zQ {α:Type} {p:Nat->α->Prop}:∀ n:Nat,(∀ i,i< n->∃ x,p i x)->∃ l:List α,l.length=n/\∀ i x,l[i]?=some x->p i x
 | 0,_=>⟨[],rfl,λi x h=>by simp at h⟩
 | n+1,h=>by
  obtain ⟨l,hl,hp⟩:=zQ n λi hi=>h i (by omega);obtain ⟨x,hx⟩:=h n (by omega);refine ⟨l++ [x],by simp [hl],λi y hy=>?_⟩;by_cases hi:i< n;rw [aV (by omega)] at hy;exact hp i y hy
  .have:i=n:=by
    have:=(au.1 hy).1;simp [hl] at this;omega
   subst this;rw [a8 (by omega)] at hy;simp [hl] at hy;subst hy;exact hx
theorem Pe {t e:TypeId} {α:Type} [aO α] (ht:P.underlying t=some (.slice e)) (hs:P.cellsOf e=aO.size α) (he:Ah P e α):Ah P t (List α):=λenc w base spare held fuel cs y h=>by
 rcases Go.Deep.open_slice ht h with ⟨hc,_⟩| ⟨a,len,cap,m,n,D,Pl,hc,hb,hl,hm,hmm,_,hi⟩;exact ⟨[],_,hc,.inl ⟨rfl,rfl⟩⟩
 .have hlm:len<=m:=by rw [hmm];split<;>omega
  obtain ⟨l,Og,hp⟩:=zQ (α:=α) (p:=λi x=>∃ cs:List Value,(∀ (j:Nat) (c:Value),cs[j]?=some c->w.cell? (a.add (i*aO.size α+j))=some c)/\aO.rel w cs x) len λi pB=>by
   obtain ⟨xC,h1,h2⟩:=hi i (by omega);obtain ⟨x,hx⟩:=he enc w base spare held n xC _ h2;refine ⟨x,xC,λj c hj=>?_,hx⟩;obtain ⟨_,M6,uo⟩:=World.cells?_some h1;have Oh:j< P.cellsOf e:=by rw [<-M6];exact (au.1 hj).1
   have:=uo j Oh;rw [Go.Deep.add_add,hs] at this;rw [this,hj]
  subst Og;exact ⟨l,_,hc,.inr ⟨a,cap,rfl,hl,hm,hp⟩⟩
theorem Mv {t:TypeId} {α:Type} [aO α] (ho:Ah P t α) (ha:aO.agg α=false) {H:Type} {enc:TypeId×Value->H} {w:World} {base:Nat} {spare:Nat->Bool} {held:Bool} {v:Value} {d:DataW H} {ps:List MemPlace}
  (hv:v.cells= #[v]) (h:DataW.Trod enc P w base spare held t v d ps):∃ x:α,Is w v x:=by
 obtain ⟨fuel,hf⟩:=h;obtain ⟨x,hx⟩:=ho enc w base spare held fuel _ _ hf;refine ⟨x,?_⟩;unfold Is;rw [if_neg (by rw [ha];simp)];rw [hv] at hx;exact hx
def jJ (k:Nat):Value->Int->Value
 | .slice (some a) _ _,i=>.pointer (some (a.add (i.toNat*k)))
 | _,_=>undef
theorem VY {w:World} {ρ:Operand->Value} {o:Oper} {x:Operand} {t:TypeId} {s:ByteArray} (ho:o.op= .call {callee:=.builtin .len,args:= #[x],argTypes:= #[t]}) (ht:P.underlying t=some .string) (hx:ρ x= .string s):
  (execOp ρ o).run P w= .ok (.value (.int .i64 s.size)) w:=by
 simp [execOp,ho,resolve,invoke,builtin,hx,Builtin.len_,run_underlying ht,goInt]
theorem ama {α:Type} [aO α] {w:World} {ρ:Operand->Value} {o:Oper} {x:Operand} {t e:TypeId} {v:Value} {xs:List α} (h:Is w v xs) (ho:o.op= .call {callee:=.builtin .len,args:= #[x],argTypes:= #[t]}) (ht:P.underlying t=some (.slice e)) (hx:ρ x=v):
  (execOp ρ o).run P w= .ok (.value (.int .i64 xs.length)) w:=by
 rcases dv.1 h with ⟨rfl,rfl⟩| ⟨a,cap,rfl,_⟩<;>simp [execOp,ho,resolve,invoke,builtin,hx,Builtin.len_,run_underlying ht,goInt]
theorem N5 {α:Type} [aO α] {w:World} {ρ:Operand->Value} {o:Oper} {x y:Operand} {t e:TypeId} {v:Value} {xs:List α} {i:Int} {ki:IntKind} (h:Is w v xs) (h0:0<=i) (h1:i< xs.length) (ho:o.op= .indexAddr t x y) (ht:P.underlying t=some (.slice e))
  (hs:(P.info? e).map (·.size)=some (aO.size α)) (hx:ρ x=v) (hy:ρ y= .int ki i):(execOp ρ o).run P w= .ok (.value (jJ (aO.size α) v i)) w:=by
 rcases dv.1 h with ⟨rfl,rfl⟩| ⟨a,cap,rfl,_⟩;simp at h1;omega
 .cases hq:P.info? e with
  | none=>simp [hq] at hs
  | some ie=>
   have kr:ie.size=aO.size α:=by simpa [hq] using hs
   simp [execOp,ho,Instr.indexAt,hx,hy,asIntOf,run_underlying ht,h0,h1,sizeOf,typeInfo,hq,kr,jJ]
end

section
variable {P:Program}
theorem Is.YB {α:Type} [aO α] {w:World} {v:Value} {xs:List α} (h:Is w v xs):xs.length<=9223372036854775807:=by
 rcases dv.1 h with ⟨_,rfl⟩| ⟨_,cap,_,h1,h2,_⟩;simp
 .unfold maxLen at h2;omega
def ra (s:ByteArray) (i:Int):UInt8:=(s[i.toNat]?).getD 0
theorem N2 {w:World} {ρ:Operand->Value} {o:Oper} {x:Operand} {lo hi:Option Operand} {t:TypeId} {s:ByteArray} {l h:Int} (hl:0<=l) (GD:l<=h) (hh:h<=s.size) (ho:o.op= .slice t x lo hi none) (ht:P.underlying t=some .string) (hx:ρ x= .string s)
  (h1:(lo=none/\l=0)\/∃ y,lo=some y/\ρ y= .int .i64 l) (h2:(hi=none/\h=s.size)\/∃ y,hi=some y/\ρ y= .int .i64 h):
  (execOp ρ o).run P w= .ok (.value (.string (s.extract l.toNat h.toNat))) w:=by
 have e0:0<=h:=by omega
 have hb:(Instr.sliceBounds false s.size s.size (lo.map ρ) (hi.map ρ) none).run P w= .ok (l.toNat,h.toNat,s.size) w:=by
  rcases h1 with ⟨rfl,rfl⟩| ⟨y,rfl,hy⟩<;>rcases h2 with ⟨rfl,rfl⟩| ⟨z,rfl,hz⟩<;>
   simp_all [Instr.sliceBounds,Instr.sliceBound,asIntOf]<;>omega
 simp [execOp,ho,Instr.sliceAt,hx,run_underlying ht,Instr.slice,hb]
end

def jg (k:Nat):Value->Int->Int->Value
 | .slice a _ cap,l,h=>.slice (if cap=l.toNat then a else a.map (·.add (l.toNat*k))) (h.toNat - l.toNat) (cap - l.toNat)
 | v,_,_=>v
section
variable {P:Program}
theorem aeB {α:Type} [aO α] {w:World} {ρ:Operand->Value} {o:Oper} {x:Operand} {lo hi:Option Operand} {t e:TypeId} {v:Value} {xs:List α} {l h:Int} (Gz:Is w v xs) (hl:0<=l) (GD:l<=h) (hh:h<=xs.length) (ho:o.op= .slice t x lo hi none)
  (ht:P.underlying t=some (.slice e)) (hs:(P.info? e).map (·.size)=some (aO.size α)) (hx:ρ x=v)
  (h1:(lo=none/\l=0)\/∃ y,lo=some y/\ρ y= .int .i64 l) (h2:(hi=none/\h=xs.length)\/∃ y,hi=some y/\ρ y= .int .i64 h):
  (execOp ρ o).run P w= .ok (.value (jg (aO.size α) v l h)) w:=by
 obtain ⟨a,cap,rfl,Jq⟩:∃ a cap,v= .slice a xs.length cap/\xs.length<=cap:=by
  rcases dv.1 Gz with ⟨rfl,rfl⟩| ⟨a,cap,rfl,hc,_⟩;exact ⟨none,0,rfl,ay _⟩;exact ⟨some a,cap,rfl,hc⟩
 have e0:0<=h:=by omega
 have M7:h<=(cap:Int):=by omega
 have hb:(Instr.sliceBounds true xs.length cap (lo.map ρ) (hi.map ρ) none).run P w= .ok (l.toNat,h.toNat,cap) w:=by
  rcases h1 with ⟨rfl,rfl⟩| ⟨y,rfl,hy⟩<;>rcases h2 with ⟨rfl,rfl⟩| ⟨z,rfl,hz⟩<;>
   simp_all [Instr.sliceBounds,Instr.sliceBound,asIntOf]<;>omega
 cases hq:P.info? e with
 | none=>simp [hq] at hs
 | some ie=>
  have kr:ie.size=aO.size α:=by simpa [hq] using hs
  simp [execOp,ho,Instr.sliceAt,hx,run_underlying ht,Instr.slice,hb,sizeOf,typeInfo,hq,kr,jg]
theorem Is.slice {α:Type} [aO α] {w:World} {v:Value} {xs:List α} {l h:Int} (hx:Is w v xs) (hl:0<=l) (GD:l<=h) (hh:h<=xs.length):
  Is w (jg (aO.size α) v l h) ((xs.drop l.toNat).take (h.toNat - l.toNat)):=by
 have hlen:((xs.drop l.toNat).take (h.toNat - l.toNat)).length=h.toNat - l.toNat:=by simp;omega
 rcases dv.1 hx with ⟨rfl,rfl⟩| ⟨a,cap,rfl,hc,hm,h3⟩
 .refine dv.2 (.inl ⟨?_,by simp⟩);simp at hh;have h1:h=0:=by omega
  have h2:l=0:=by omega
  subst h1 h2;rfl
 .refine dv.2 (.inr ⟨if cap=l.toNat then a else a.add (l.toNat*aO.size α),cap - l.toNat,?_,by rw [hlen];omega,by omega,λi x hi=>?_⟩)
  .rw [hlen];unfold jg;simp only [js];split<;>rfl
  .have pB:i< h.toNat - l.toNat:=by
    have:=(au.1 hi).1
    rwa [hlen] at this
   rw [ez,if_pos pB,List.getElem?_drop] at hi;obtain ⟨cs,h4,h5⟩:=h3 _ x hi;refine ⟨cs,λj c hj=>?_,h5⟩;have:=h4 j c hj;rw [if_neg (by omega),Go.Deep.add_add];rw [<-this];congr 2;rw [fg];omega
end
theorem oW {k:IntKind} {n:Int} (h:(Lit.int k n).wf=true):k.wrap n=n:=by
 cases k<;>simp [Lit.wf,IntKind.min,kc,eH,gY] at h<;>simp [IntKind.wrap,eH,gY]<;>omega
theorem wrap64_in {n:Int} (h0: -9223372036854775808<=n) (h1:n<=9223372036854775807):IntKind.i64.wrap n=n:=oW (WalkArith.wf_i64 ⟨h0,h1⟩)
end Go.Lm
namespace Go.Lm
open Go Go.RowKit

structure qh (w:World) (b:Nat) (o:Obj) (w':World):Prop where
 eq:w'= {w with heap:=w.heap.setIfInBounds b o}
 lt:b< w.heap.size
theorem qh.here {w w':World} {b:Nat} {o:Obj} (h:qh w b o w'):w'.heap[b]?=some o:=by rw [h.eq];simp [h.lt]
theorem qh.YH {w w':World} {b k:Nat} {o:Obj} (h:qh w b o w') (gx:k≠b):w'.heap[k]?=w.heap[k]?:=by
 rw [h.eq];simp [ke (Ne.symm gx)]
theorem qh.jw {w w':World} {b k:Nat} {o x:Obj} (h:qh w b o w') (gx:k≠b) (hx:w.heap[k]?=some x):w'.heap[k]?=some x:=by rw [h.YH gx];exact hx
theorem qh.size {w w':World} {b:Nat} {o:Obj} (h:qh w b o w'):w'.heap.size=w.heap.size:=by rw [h.eq];simp
theorem qh.below {w w' a:World} {b B:Nat} {o:Obj} (h:qh w b o w') (hb:Below B a w) (hB:B<=b):Below B a w':=by
 refine hb.trans ⟨?_,?_,?_,?_,λk hk=>h.YH (by omega)⟩;rw [h.eq];rw [h.eq];rw [h.eq];rw [h.size];exact ay _
theorem ri.BB {g w w':World} {b:Nat} {o:Obj} (h:ri g w) (hn:tm g b) (hu:qh w b o w'):ri g w':=by
 refine ⟨by rw [hu.size];exact h.size,λa v hv=>?_⟩;have gx:a.block≠b:=λe=>by rw [hn a e] at hv;cases hv
 have h1:=h.mono a v hv;rw [World.cell?_of_block (w:=w) (hu.YH gx)];exact h1
section
variable {P:Program}
theorem N3 {w:World} {ρ:Operand->Value} {o:Oper} {x:Operand} {t:TypeId} {s:ByteArray} (ho:o.op= .range t x) (ht:P.underlying t=some .string) (hx:ρ x= .string s):
  (execOp ρ o).run P w= .ok (.value (ptr w.heap.size 0)) (w.alloc (.stringIter s 0)):=by
 simp [execOp,ho,Instr.range,hx,run_underlying ht,go_sem]
theorem Qw {w:World} {ρ:Operand->Value} {o:Oper} {x:Operand} {s:ByteArray} {b pos:Nat} (hk:w.heap[b]?=some (.stringIter s pos)) (h:pos< s.size) (ho:o.op= .next x true) (hx:ρ x=ptr b 0):
  (execOp ρ o).run P w= .ok (.value (.tuple #[.bool true,.int .i64 pos,.int .i32 (Utf8.decode s pos).1])) {w with heap:=w.heap.setIfInBounds b (.stringIter s (pos+(Utf8.decode s pos).2))}:=by
 have h1:=Lib.run_next_any_at (P:=P) w b s pos o.type hk h;simp only [execOp,ho,hx,Sem.run_bind,h1,Result.andThen_ok,Sem.run_pure];rfl
theorem VX {w:World} {ρ:Operand->Value} {o:Oper} {x:Operand} {s:ByteArray} {b pos:Nat} (hk:w.heap[b]?=some (.stringIter s pos)) (h:¬pos< s.size) (ho:o.op= .next x true) (hx:ρ x=ptr b 0):
  (execOp ρ o).run P w= .ok (.value (.tuple #[.bool false])) w:=by
 have h1:=Lib.run_next_end_at (P:=P) w b s pos o.type hk h;simp only [execOp,ho,hx,Sem.run_bind,h1,Result.andThen_ok,Sem.run_pure]
end
section
variable {P:Program} {ops:Array Oper} {rest:List Oper} {o:Oper} {n:Nat} {s:AL} {Q:Exit->Act->World->Prop} {w:World}
end

def eC {α:Type} [aO α] (g:World):List (List Value)->List α->Prop
 | [],[]=>True
 | c::cs,x::xs=>aO.rel g c x/\eC g cs xs
 | _,_=>False
theorem eC.mono {α:Type} [aO α] {g g':World} (h:bx g g'):∀ {cs:List (List Value)} {xs:List α},eC g cs xs->eC g' cs xs
 | [],[],_=>trivial
 | _::_,_::_,hh=>⟨aO.mono h hh.1,eC.mono h hh.2⟩
theorem eC.get {α:Type} [aO α] {g:World}:∀ {cs:List (List Value)} {xs:List α},eC g cs xs->∀ (i:Nat) (x:α),xs[i]?=some x->∃ c,aO.rel g c x/\∀ (j:Nat) (v:Value),c[j]?=some v->cs.flatten[i*aO.size α+j]?=some v
 | [],[],_,i,x,hx=>by simp at hx
 | c::cs,y::xs,h,0,x,hx=>by
  obtain rfl:y=x:=by simpa using hx
  refine ⟨c,h.1,λj v hj=>?_⟩;rw [bI,Nat.zero_mul,bW,aV (au.1 hj).1];exact hj
 | c::cs,y::xs,h,i+1,x,hx=>by
  obtain ⟨c',h1,h2⟩:=eC.get h.2 i x (by simpa using hx);refine ⟨c',h1,λj v hj=>?_⟩;have hl:=aO.len h.1;rw [bI,a8 (by rw [hl,fg];omega),hl];have:=h2 j v hj;rw [<-this];congr 1;rw [fg];omega
structure abw {α:Type} [aO α] (g w:World) (base:Nat) (e:TypeId) (v:Value) (xs:List α):Prop where
 ex:∃ cs:List (List Value),eC g cs xs/\w.ownsRow base e (aO.size α) v xs.length cs.flatten
theorem abw.is {α:Type} [aO α] {g w G:World} {base:Nat} {e:TypeId} {v:Value} {xs:List α} (h:abw g w base e v xs) (hg:bx g G) (hb:∀ a:Addr,base<=a.block->G.cell? a=w.cell? a):Is G v xs:=by
 obtain ⟨cs,h1,h2,h3⟩:=h.ex;rcases h3 with ⟨rfl,h0⟩| ⟨k,cap,cur,rfl,hbk,hk,hnc,ff,wY,GA⟩;exact dv.2 (.inl ⟨rfl,aJ h0⟩)
 .refine dv.2 (.inr ⟨⟨k,0,none⟩,cap,rfl,hnc,ff,λi x hx=>?_⟩);obtain ⟨c,hr,hc⟩:=h1.get i x hx;refine ⟨c,λj v hj=>?_,aO.mono hg hr⟩;rw [Addr.add_mid,hb ⟨k,_,none⟩ hbk];have h4:=hc j v hj;rw [<-GA,ez] at h4;split at h4
  .simp [World.cell?,hk];simpa using h4
  .cases h4
section
variable {P:Program} {ops:Array Oper} {rest:List Oper} {o:Oper} {n:Nat} {s:AL} {Q:Exit->Act->World->Prop} {w:World}
end

theorem uO {w:World} {k:Nat} {x:Obj} (h:w.heap[k]?=some x):k< w.heap.size:=(aQ.1 h).1
theorem ahU {α:Type} [aO α] (g:World):Is g (.slice none 0 0) ([]:List α):=dv.2 (.inl ⟨rfl,rfl⟩)
theorem Hs.of {P:Program} {f:FuncId} {args:Array Value} {w:World} {v:Value} {Q:World->Prop} (h:Calls P f args w λe w'=>e= .returned v/\Q w'):Hs P f args w λu w'=>u=v/\Q w':=
 Calls.mono h λ_ _ ⟨h1,h2⟩=>⟨v,h1,rfl,h2⟩
theorem Hs.mono {P:Program} {f:FuncId} {args:Array Value} {w:World} {R R':Value->World->Prop} (h:Hs P f args w R) (hr:∀ v w',R v w'->R' v w'):Hs P f args w R':=
 Calls.mono h λ_ _ ⟨v,h1,h2⟩=>⟨v,h1,hr v _ h2⟩
end Go.Lm
namespace Go.Lm
open Go Go.RowKit
section
variable {P:Program} {ops:Array Oper} {rest:List Oper} {o:Oper} {n:Nat} {s:AL} {Q:Exit->Act->World->Prop} {w:World} {d f:Nat}
end
end Go.Lm
namespace Go.Lm
open Go Go.RowKit

section
variable {P:Program} {ops:Array Oper} {rest:List Oper} {o:Oper} {n:Nat} {s:AL} {Q:Exit->Act->World->Prop} {w:World}
end
end Go.Lm
namespace Go.Lm
open Go Go.RowKit

class jO (ρ:Type) where
 rsize:Nat
 rrel:World->List Value->ρ->Prop
 rmono:∀ {w w':World} {cs:List Value} {x:ρ},bx w w'->rrel w cs x->rrel w' cs x
 rlen:∀ {w:World} {cs:List Value} {x:ρ},rrel w cs x->cs.length=rsize
instance:jO PUnit where
 rsize:=0
 rrel _ cs _:=cs= []
 rmono _ h:=h
 rlen h:=by rw [h];rfl
instance {α ρ:Type} [aO α] [jO ρ]:jO (α×ρ) where
 rsize:=aO.size α+jO.rsize ρ
 rrel w cs x:=∃ c1 c2,cs=c1++c2/\aO.rel w c1 x.1/\jO.rrel w c2 x.2
 rmono:=by rintro w w' cs x hl ⟨c1,c2,rfl,h1,h2⟩;exact ⟨c1,c2,rfl,aO.mono hl h1,jO.rmono hl h2⟩
 rlen:=by rintro w cs x ⟨c1,c2,rfl,h1,h2⟩;rw [af,aO.len h1,jO.rlen h2]
structure St (ρ:Type) where
 v:ρ
instance {ρ:Type} [jO ρ]:aO (St ρ) where
 size:=jO.rsize ρ
 agg:=true
 rel w cs x:=jO.rrel w cs x.v
 mono hl h:=jO.rmono hl h
 len h:=jO.rlen h
section
variable {P:Program}
end
section
variable {ρ:Type} [jO ρ] {w:World} {cs:List Value}
end
end Go.Lm
namespace Go.Lm
open Go Go.RowKit
abbrev Qv:=St (ByteArray×List UInt8×PUnit)
abbrev amm:=St (Int×Int×Int×PUnit)
abbrev NodeD:=St (List ByteArray×Int×Int×amm×List UInt8×ByteArray×List Qv×Bool×PUnit)
namespace NodeD
end NodeD
instance:Inhabited Qv:=⟨⟨(⟨#[]⟩,[],⟨⟩)⟩⟩
instance:Inhabited NodeD:=⟨⟨([],0,0,⟨(0,0,0,⟨⟩)⟩,[],⟨#[]⟩,[],false,⟨⟩)⟩⟩
end Go.Lm
namespace Go.Lm
open Go Go.RowKit

abbrev Hp:=Nat->Option Obj
def Hp.join (h k:Hp):Hp:=λb=>match h b with| some o=>some o| none=>k b
def Hp.apart (h k:Hp):Prop:=∀ b,h b=none\/k b=none
theorem Hp.fJ {h k:Hp} {b:Nat} {o:Obj} (e:h b=some o):h.join k b=some o:=by simp [Hp.join,e]
theorem Hp.mj {h k:Hp} {b:Nat} (e:h b=none):h.join k b=k b:=by simp [Hp.join,e]
theorem Hp.apart.symm {h k:Hp} (a:h.apart k):k.apart h:=λb=>(a b).symm
theorem Hp.join_comm {h k:Hp} (a:h.apart k):h.join k=k.join h:=by
 funext b;unfold Hp.join;rcases a b with e| e<;>rw [e]<;>cases h b<;>cases k b<;>simp_all
theorem Hp.join_assoc (h k m:Hp):(h.join k).join m=h.join (k.join m):=by
 funext b;unfold Hp.join;cases h b<;>rfl
theorem Hp.eP {h k m:Hp}:h.apart (k.join m)↔h.apart k/\h.apart m:=by
 constructor
 .intro a;refine ⟨λb=>?_,λb=>?_⟩
  .rcases a b with e| e
   .exact .inl e
   .right;unfold Hp.join at e;cases hk:k b<;>simp_all
  .rcases a b with e| e
   .exact .inl e
   .right;unfold Hp.join at e;cases hk:k b<;>simp_all
 .rintro ⟨a1,a2⟩ b;rcases a1 b with e| e
  .exact .inl e
  .rcases a2 b with e'| e'
   .exact .inl e'
   .right;simp [Hp.join,e,e']
structure Atom where
 sat:World->Hp->Prop
 mono:∀ {g g':World} {h:Hp},bx g g'->sat g h->sat g' h
def bq (g:World):List Atom->Hp->Prop
 | [],_=>True
 | a::l,h=>∃ h1 h2,Hp.apart h1 h2/\h=h1.join h2/\a.sat g h1/\bq g l h2
theorem bq.mono {g g':World} (m:bx g g'):∀ {l:List Atom} {h:Hp},bq g l h->bq g' l h
 | [],_,_=>trivial
 | _::_,_,⟨h1,h2,a,e,s1,s2⟩=>⟨h1,h2,a,e,Atom.mono _ m s1,s2.mono m⟩
theorem bq.swap {g:World} {a b:Atom} {l:List Atom} {h:Hp} (s:bq g (a::b::l) h):bq g (b::a::l) h:=by
 obtain ⟨h1,h2,ap,rfl,s1,k1,k2,ap2,rfl,s2,s3⟩:=s;obtain ⟨a1,a2⟩:=Hp.eP.1 ap;refine ⟨k1,h1.join k2,Hp.eP.2 ⟨a1.symm,ap2⟩,?_,s2,h1,k2,a2,rfl,s1,s3⟩;rw [<-Hp.join_assoc,Hp.join_comm a1,Hp.join_assoc]
def wI:List Atom->Nat->Option Atom
 | [],_=>none
 | a::_,0=>some a
 | _::l,i+1=>wI l i
def dC:List Atom->Nat->List Atom
 | [],_=>[]
 | _::l,0=>l
 | a::l,i+1=>a::dC l i
def wk:List Atom->Nat->Atom->List Atom
 | [],_,_=>[]
 | _::l,0,b=>b::l
 | a::l,i+1,b=>a::wk l i b
theorem bq.pick {g:World}:∀ {l:List Atom} {i:Nat} {a:Atom} {h:Hp},wI l i=some a->bq g l h->bq g (a::dC l i) h
 | [],_,_,_,e,_=>by cases e
 | b::l,0,a,h,e,s=>by
  obtain rfl:b=a:=aj e;exact s
 | b::l,i+1,a,h,e,s=>by
  obtain ⟨h1,h2,ap,rfl,s1,s2⟩:=s;have:=bq.pick (l:=l) (i:=i) e s2;exact bq.swap ⟨h1,h2,ap,rfl,s1,this⟩
theorem bq.oc {g:World}:∀ {l:List Atom} {i:Nat} {a b:Atom} {h:Hp},wI l i=some b->bq g (a::dC l i) h->bq g (wk l i a) h
 | [],_,_,_,_,e,_=>by cases e
 | c::l,0,a,b,h,e,s=>s
 | c::l,i+1,a,b,h,e,s=>by
  obtain ⟨h1,h2,ap,rfl,s1,s2⟩:=s.swap;exact ⟨h1,h2,ap,rfl,s1,bq.oc (l:=l) (i:=i) e s2⟩
structure cQ where
 w:World
 g:World
 ds:List Deferred:=[]
abbrev cQ.n (W:cQ):Nat:=W.w.heap.size
structure qi (W:cQ) (g w:World):Prop where
 uf:ri g w
 agr:Agr W.g W.w g
theorem qi.size {W:cQ} {g w:World} (s:qi W g w):g.heap.size<=w.heap.size:=s.uf.size
theorem qi.mono {W:cQ} {g w:World} (s:qi W g w):bx g w:=s.uf.mono
theorem qi.le {W:cQ} {g w w':World} (s:qi W g w) (e:Le w w'):qi W g w':=⟨s.uf.le e,s.agr⟩
theorem qi.BB {W:cQ} {g w w':World} {b:Nat} {o:Obj} (s:qi W g w) (hn:tm g b) (u:qh w b o w'):qi W g w':=⟨s.uf.BB hn u,s.agr⟩
def SL (W:cQ) (g w:World) (l:List Atom):Prop:=
 ∃ h,Below W.n W.w w/\qi W g w/\(∀ b o,h b=some o->W.n<=b/\w.heap[b]?=some o/\tm g b)/\bq g l h
section
variable {W:cQ} {g w w':World} {l:List Atom}
theorem SL.start (s:ri g w):SL {w:=w,g:=g} g w []:=⟨λ_=>none,Below.refl _ _,⟨s,Agr.refl g w⟩,(λ_ _ h=>by cases h),trivial⟩
theorem SL.aeR (H:SL W g w l):qi W g w:=by obtain ⟨_,_,h,_⟩:=H;exact h
theorem SL.uf (H:SL W g w l):ri g w:=H.aeR.uf
theorem SL.m (H:SL W g w l):bx g w:=H.uf.mono
theorem SL.below (H:SL W g w l):Below W.n W.w w:=by obtain ⟨_,h,_⟩:=H;exact h
theorem SL.am2 (H:SL W g w l):Le W.w w:=H.below
theorem SL.size (H:SL W g w l):W.n<=w.heap.size:=H.below.size
theorem SL.le (H:SL W g w l) (e:Le w w'):SL W g w' l:=by
 obtain ⟨h,b,s,o,t⟩:=H;refine ⟨h,e.Qp b,s.le e,λk x hx=>?_,t⟩;obtain ⟨o1,o2,o3⟩:=o k x hx;exact ⟨o1,e.jw o2,o3⟩
theorem SL.cz {l':List Atom} (H:SL W g w l) (k:∀ h,bq g l h->bq g l' h):SL W g w l':=by
 obtain ⟨h,b,s,o,t⟩:=H;exact ⟨h,b,s,o,k h t⟩
theorem SL.pick (i:Nat) {a:Atom} (H:SL W g w l) (e:wI l i=some a:=by exact rfl):SL W g w (a::dC l i):=H.cz λ_=>bq.pick e
theorem SL.oc (i:Nat) {a b:Atom} (e:wI l i=some b) (H:SL W g w (a::dC l i)):SL W g w (wk l i a):=H.cz λ_=>bq.oc e
theorem SL.drop {a:Atom} (H:SL W g w (a::l)):SL W g w l:=by
 obtain ⟨h,b,s,o,h1,h2,ap,rfl,s1,s2⟩:=H;refine ⟨h2,b,s,λk x hx=>o k x ?_,s2⟩;rcases ap k with e| e;rw [Hp.mj e];exact hx;rw [e] at hx;cases hx
def perm (l:List Atom):List Nat->List Atom
 | []=>l
 | i::r=>match wI l i with
  | some a=>a::perm (dC l i) r
  | none=>l
theorem SL.under {a:Atom} {l':List Atom} (H:SL W g w (a::l)) (k:∀ h,bq g l h->bq g l' h):SL W g w (a::l'):=
 H.cz λ_ ⟨h1,h2,ap,e,s1,s2⟩=>⟨h1,h2,ap,e,s1,k h2 s2⟩
theorem bq.perm:∀ (r:List Nat) {l:List Atom} {h:Hp},bq g l h->bq g (Lm.perm l r) h
 | [],_,_,s=>s
 | i::r,l,h,s=>by
  unfold Lm.perm;cases e:wI l i with
  | none=>exact s
  | some a=>
   obtain ⟨h1,h2,ap,q,s1,s2⟩:=s.pick e;exact ⟨h1,h2,ap,q,s1,bq.perm r s2⟩
theorem SL.perm (r:List Nat) (H:SL W g w l):SL W g w (Lm.perm l r):=H.cz λ_=>bq.perm r
theorem SL.to {l':List Atom} (r:List Nat) (H:SL W g w l) (e:Lm.perm l r=l':=by exact rfl):SL W g w l':=e▸H.perm r
theorem SL.cast {l':List Atom} (H:SL W g w l) (e:l=l':=by exact rfl):SL W g w l':=e▸H
def obj (b:Nat) (o:Obj):Atom:=⟨λ_ h=>h b=some o,λ_ s=>s⟩
abbrev oP (b:Nat) (cs:Array Value) (t:TypeId):Atom:=obj b (.cells cs t (0,0))
theorem SL.Eg {b:Nat} {o:Obj} (H:SL W g w (obj b o::l)):W.n<=b/\w.heap[b]?=some o/\tm g b:=by
 obtain ⟨h,_,_,ow,h1,h2,ap,rfl,s1,s2⟩:=H;exact ow b o (Hp.fJ s1)
theorem SL.has (i:Nat) {b:Nat} {o:Obj} (H:SL W g w l) (e:wI l i=some (obj b o):=by exact rfl):w.heap[b]?=some o:=(H.pick i e).Eg.2.1
theorem SL.oP (i:Nat) {b:Nat} {cs:Array Value} {t:TypeId} (H:SL W g w l) (e:wI l i=some (Lm.oP b cs t):=by exact rfl):Ht w b cs t:=H.has i e
theorem SL.new {b:Nat} {o:Obj} (H:SL W g w l) (n:xy w b o w'):SL W g w' (obj b o::l):=by
 obtain ⟨h,be,s,ow,t⟩:=H;have hb:h b=none:=by
  cases hx:h b with
  | none=>rfl
  | some x=>
   have:=(aQ.1 (ow b x hx).2.1).1;rw [n.at_] at this;omega
 refine ⟨Hp.join (λk=>if k=b then some o else none) h,n.below be (by rw [n.at_];exact be.size),s.le n.le,λk x hx=>?_,_,h,λk=>?_,rfl,if_pos rfl,t⟩
 .unfold Hp.join at hx;by_cases e:k=b
  .subst e;simp at hx;subst hx;exact ⟨by rw [n.at_];exact be.size,n.here,n.akO s.uf⟩
  .simp [e] at hx;obtain ⟨o1,o2,o3⟩:=ow k x hx;exact ⟨o1,n.jw o2,o3⟩
 .by_cases e:k=b
  .subst e;exact .inr hb
  .left;simp [e]
theorem SL.zA {b:Nat} {o o':Obj} (H:SL W g w (obj b o::l)) (u:qh w b o' w'):SL W g w' (obj b o'::l):=by
 obtain ⟨hW,hw,hn⟩:=H.Eg;obtain ⟨h,be,s,ow,h1,h2,ap,rfl,s1,s2⟩:=H;have h2b:h2 b=none:=by
  rcases ap b with e| e;rw [show h1 b=some o from s1] at e;cases e;exact e
 refine ⟨Hp.join (λk=>if k=b then some o' else h1 k) h2,u.below be hW,s.BB hn u,λk x hx=>?_,_,h2,λk=>?_,rfl,by show (if b=b then some o' else h1 b)=some o';rw [if_pos rfl],s2⟩
 .by_cases e:k=b
  .subst e;have:x=o':=by unfold Hp.join at hx;simp at hx;exact hx.symm
   subst this;exact ⟨hW,u.here,hn⟩
  .have Gz:(h1.join h2) k=some x:=by unfold Hp.join at hx ⊢;simpa [e] using hx
   obtain ⟨o1,o2,o3⟩:=ow k x Gz;exact ⟨o1,u.jw e o2,o3⟩
 .by_cases e:k=b
  .subst e;exact .inr h2b
  .rcases ap k with q| q
   .left;simp [e,q]
   .exact .inr q
theorem SL.BB (i:Nat) {b:Nat} {o o':Obj} (H:SL W g w l) (u:qh w b o' w') (e:wI l i=some (obj b o):=by exact rfl):SL W g w' (wk l i (obj b o')):=by
 have:=(H.pick i e).zA u;exact this.oc i e
theorem Wg.BB {b:Nat} {cs vQ:Array Value} {t:TypeId} (u:Wg w b cs w') (h:Ht w b vQ t):qh w b (.cells cs t (0,0)) w':=by
 refine ⟨?_,u.lt⟩;rw [u.eq];unfold World.setRow;congr 1;apply Array.ext_getElem?;intro k;rw [iL];by_cases e:b=k
 .subst e;unfold Ht at h;rw [if_pos rfl,h];simp [u.lt]
 .rw [if_neg e,ke e]
theorem SL.upd (i:Nat) {b:Nat} {cs vQ:Array Value} {t:TypeId} (H:SL W g w l) (u:Wg w b cs w') (e:wI l i=some (Lm.oP b vQ t):=by exact rfl):SL W g w' (wk l i (Lm.oP b cs t)):=
 H.BB i (u.BB (H.oP i e)) e
def exA {α:Sort _} (f:α->List Atom):Atom:=⟨λg h=>∃ x,bq g (f x) h,λm ⟨x,s⟩=>⟨x,s.mono m⟩⟩
def sE (p:Prop):Atom:=⟨λ_ _=>p,λ_ s=>s⟩
theorem bq.app:∀ {a:List Atom} {h1 h2:Hp},Hp.apart h1 h2->bq g a h1->bq g l h2->bq g (a++l) (h1.join h2)
 | [],h1,h2,ap,_,s2=>by
  -- what is left over YI the rest
  have key:∀ {l:List Atom} {h2:Hp},Hp.apart h1 h2->bq g l h2->bq g l (h1.join h2):=by
   intro l
   induction l with
   | nil=>intros;trivial
   | cons a l ih=>
    rintro h2 ap ⟨k1,k2,ap2,rfl,s1,s3⟩;obtain ⟨a1,a2⟩:=Hp.eP.1 ap;refine ⟨k1,h1.join k2,Hp.eP.2 ⟨a1.symm,ap2⟩,?_,s1,ih a2 s3⟩;rw [<-Hp.join_assoc,Hp.join_comm a1,Hp.join_assoc]
  exact key ap s2
 | a::r,h1,h2,ap,⟨k1,k2,ap2,e,s1,s3⟩,s2=>by
  subst e;have ap':=Hp.eP.1 ap.symm;refine ⟨k1,k2.join h2,Hp.eP.2 ⟨ap2,ap'.1.symm⟩,by rw [Hp.join_assoc],s1,bq.app ap'.2.symm s3 s2⟩
theorem bq.Xx:∀ {a:List Atom} {h:Hp},bq g (a++l) h->∃ h1 h2,Hp.apart h1 h2/\h=h1.join h2/\bq g a h1/\bq g l h2
 | [],h,s=>⟨λ_=>none,h,λ_=>.inl rfl,rfl,trivial,s⟩
 | a::r,h,⟨k1,k2,ap,e,s1,s2⟩=>by
  obtain ⟨m1,m2,ap2,rfl,s3,s4⟩:=bq.Xx s2;obtain ⟨a1,a2⟩:=Hp.eP.1 ap;exact ⟨k1.join m1,m2,(Hp.eP.2 ⟨a2.symm,ap2.symm⟩).symm,by rw [e,Hp.join_assoc],⟨k1,m1,a1,rfl,s1,s3⟩,s4⟩
theorem SL.CB {α:Sort _} {f:α->List Atom} (H:SL W g w (exA f::l)):∃ x,SL W g w (f x++l):=by
 obtain ⟨h,b,s,o,h1,h2,ap,rfl,⟨x,s1⟩,s2⟩:=H;exact ⟨x,_,b,s,o,s1.app ap s2⟩
theorem SL.zE {α:Sort _} {f:α->List Atom} (x:α) (H:SL W g w (f x++l)):SL W g w (exA f::l):=H.cz λ_ s=>by
 obtain ⟨h1,h2,ap,rfl,s1,s2⟩:=s.Xx;exact ⟨h1,h2,ap,rfl,⟨x,s1⟩,s2⟩
theorem SL.pure {p:Prop} (H:SL W g w (sE p::l)):p/\SL W g w l:=by
 refine ⟨?_,H.drop⟩;obtain ⟨h,b,s,o,h1,h2,ap,rfl,s1,s2⟩:=H;exact s1
theorem SL.o8 {p:Prop} (hp:p) (H:SL W g w l):SL W g w (sE p::l):=H.cz λh s=>⟨λ_=>none,h,λ_=>.inl rfl,rfl,hp,s⟩
theorem SL.acU (H:SL W g w l) (e:Le w w'):SL W (oE g w w') w' l:=by
 obtain ⟨h,be,s,o,t⟩:=H;refine ⟨h,e.Qp be,⟨PU s.uf e,s.agr.oE s.uf e be.size⟩,λb x hx=>?_,t.mono (C0 s.uf e)⟩;obtain ⟨o1,o2,o3⟩:=o b x hx;exact ⟨o1,e.jw o2,M9 s.uf e (aQ.1 o2).1 o3⟩
def rm (g:World) (n b:Nat) (o:Obj):World:= {g with heap:=Array.ofFn (n:=n) λk=>if k.val=b then o else (g.heap[k.val]?).getD (.map #[] 0)}
theorem jz {g:World} {n b:Nat} {o:Obj} (hs:g.heap.size<=n) (a:Addr) (hb:a.block≠b):(rm g n b o).cell? a=g.cell? a:=by
 unfold World.cell? rm;by_cases h:a.block< n
 .simp only [Array.getElem?_ofFn,h,dif_pos];rw [if_neg hb];cases hg:g.heap[a.block]?<;>simp
 .simp only [Array.getElem?_ofFn,h,dif_neg,not_false_iff];rw [il (by omega)]
theorem SL.afj {b:Nat} {cs:Array Value} {t:TypeId} (H:SL W g w (Lm.oP b cs t::l)):∃ g',bx g g'/\SL W g' w l/\(∀ i,g'.cell? ⟨b,i,none⟩=cs[i]?):=by
 obtain ⟨hW,hw,hn⟩:=H.Eg;obtain ⟨h,be,s,o,h1,h2,ap,rfl,s1,s2⟩:=H;have eK:b< w.heap.size:=(aQ.1 hw).1;have m:bx g (rm g w.heap.size b (.cells cs t (0,0))):=λa v hv=>by
  have gx:a.block≠b:=λe=>by rw [hn a e] at hv;cases hv
  rw [jz s.size a gx];exact hv
 have hc:∀ (i:Nat) (sp),(rm g w.heap.size b (.cells cs t (0,0))).cell? ⟨b,i,sp⟩=w.cell? ⟨b,i,sp⟩:=λi sp=>by
  unfold World.cell? rm;rw [hw];simp [eK]
 refine ⟨rm g w.heap.size b (.cells cs t (0,0)),m,⟨h2,be,⟨⟨by simp [rm],λa v hv=>?_⟩,λa ha=>?_⟩,λk x hx=>?_,s2.mono m⟩,λi=>?_⟩
 .by_cases e:a.block=b
  .have:a=⟨b,a.off,a.spot⟩:=by cases a;simp_all
   rw [this] at hv ⊢;rw [hc] at hv;exact hv
  .rw [jz s.size a e] at hv;exact s.mono a v hv
 .have gx:a.block≠b:=λe=>by
   have h1:W.n<=b:=hW;unfold cQ.n at h1;omega
  rw [jz s.size a gx];exact s.agr a ha
 .have h1k:h1 k=none:=by
   rcases ap k with e| e;exact e;rw [e] at hx;cases hx
  obtain ⟨o1,o2,o3⟩:=o k x (by rw [Hp.mj h1k];exact hx);refine ⟨o1,o2,λa ha=>?_⟩;have hkb:k≠b:=λe=>by
   subst e;rw [show h1 k=some _ from s1] at h1k;cases h1k
  rw [jz s.size a (by rw [ha];exact hkb)];exact o3 a ha
 .rw [hc];exact Ht.cell hw i
end
end Go.Lm
namespace Go.Lm
open Go Go.RowKit Go.Maps Go.ChangeMaps
open Go.WideElems (Fit rd rg pl rd_key rd_val rg_of)
open Go.WideShapes (sorted_perm)
open Go.MapKept

def eL (v:Value):Option (DataW Value×List MemPlace):=some (.held v,[])
class dF (κ:Type) where
 dec:DecidableEq κ
 lit:κ->Lit
 val:κ->Value
 ok:κ->Prop
 same:∀ a b:κ,(lit a).sameKey (lit b)= @decide (a=b) (dec a b)
 inj:∀ a b:κ,lit a=lit b->a=b
instance (priority:=low) {κ:Type} [dF κ]:DecidableEq κ:=dF.dec
instance:dF Int where
 dec:=inferInstance
 lit i:=.int .i64 i
 val i:=.int .i64 i
 ok i:=(Lit.int .i64 i).wf=true
 same a b:=by simp [Lit.sameKey]
 inj a b h:=by cases h;rfl
instance:dF ByteArray where
 dec:=inferInstance
 lit s:=.string s.data.toList
 val s:=.string s
 ok s:=s.size<=maxLen
 same a b:=by
  simp only [Lit.sameKey];rw [Bool.eq_iff_iff];simp only [beq_iff_eq,decide_eq_true_eq];constructor
  .intro h;cases a;cases b;rename_i x y;cases x;cases y;simp at h;rw [h]
  .intro h;rw [h]
 inj a b h:=by
  cases a;cases b;rename_i x y;cases x;cases y;simp at h;rw [h]
structure xA (P:Program) (k:TypeId) (κ:Type) [dF κ]:Prop where
 keyed:Keyed P k
 of:∀ x:κ,dF.ok x->keyOf P k (dF.val x)=some (dF.lit x)
 inv:∀ (v:Value) (x:κ),keyOf P k v=some (dF.lit x)->v=dF.val x/\dF.ok x
theorem wR {P:Program} {k:TypeId} (h:P.underlying k=some (.int .i64)):xA P k Int where
 keyed:=int_keyed h
 of x hx:=keyOf_int_mk h hx
 inv v x hv:=by
  obtain ⟨y,rfl,h2,h3⟩:=Maps.keyOf_int_inv h hv;cases h2;exact ⟨rfl,h3⟩
theorem Ec {P:Program} {k:TypeId} (hk:P.underlying k=some .string) {key:Value} {kl:Lit} (h:keyOf P k key=some kl):∃ x:ByteArray,key= .string x/\kl= .string x.data.toList/\x.size<=maxLen:=by
 cases key<;>simp [keyOf,hk,mapKey] at h;obtain ⟨hw,rfl⟩:=h;exact ⟨_,rfl,rfl,hw⟩
theorem YG {P:Program} {k:TypeId} (h:P.underlying k=some .string):xA P k ByteArray where
 keyed:=string_keyed h
 of x hx:=by
  have Gz:x.size<=maxLen:=hx;simp [keyOf,h,mapKey,dF.val,dF.lit,Gz]
 inv v x hv:=by
  obtain ⟨y,rfl,h2,h3⟩:=Ec h hv;obtain rfl:=dF.inj (κ:=ByteArray) x y h2;exact ⟨rfl,h3⟩
section
variable {κ:Type} [dF κ]
def kC (p:κ×Value):Lit×DataW Value:=(dF.lit p.1,.held p.2)
def iC {α:Type} (l:List (κ×α)) (x:κ):Option α:=(l.find? λp=>decide (p.1=x)).map (·.2)
def mF {α:Type} (l:List (κ×α)) (x:κ):List (κ×α):=l.filter λp=> !decide (p.1=x)
def qL {α:Type} (l:List (κ×α)) (x:κ) (v:α):List (κ×α):=(x,v)::mF l x
theorem P2 (l:List (κ×Value)) (x:κ):(l.map kC).filter (notKey (dF.lit x))=(mF l x).map kC:=by
 unfold mF;rw [List.filter_map];congr 1;apply List.filter_congr;intro p _;simp [Function.comp,notKey,kC,dF.same]
structure lQ (P:Program) (k:TypeId) (es:Array MapEntry) (clock:Nat) (l:List (κ×Value)):Prop where
 fit:Fit P k eL es clock
 perm:(es.toList.map (rg P k eL)).Perm (l.map kC)
theorem lQ.size {P:Program} {k:TypeId} {es:Array MapEntry} {clock:Nat} {l:List (κ×Value)} (h:lQ P k es clock l):es.size=l.length:=by
 have:=h.perm.length_eq;simpa using this
theorem lQ.nodup {P:Program} {k:TypeId} {es:Array MapEntry} {clock:Nat} {l:List (κ×Value)} (h:lQ P k es clock l) (K:Keyed P k):(l.map (·.1)).Nodup:=by
 have h1:=fit_apart K h.fit;have h2:(l.map kC).Pairwise (λp q=>p.1≠q.1):=(h.perm.pairwise_iff (λ{_ _} gx=>Ne.symm gx)).1 h1;rw [mL] at h2;unfold List.Nodup;rw [mL];exact h2.imp λgx e=>gx (by unfold kC;exact congrArg dF.lit e)
theorem mM {P:Program} {k:TypeId} {es:Array MapEntry} {clock:Nat} (F:Fit P k eL es clock) {x:MapEntry} (hx:x∈es.toList):∃ kl,keyOf P k x.key=some kl/\rg P k eL x=(kl,.held x.val):=by
 obtain ⟨y,hy⟩:=F.reads x hx;refine ⟨y.1,rd_key hy,?_⟩;rw [rg_of hy];obtain ⟨z,hz,hd⟩:=rd_val hy;have:z=(.held x.val,[]):=by
  have:eL x.val=some (.held x.val,[]):=rfl;rw [this] at hz;exact (aj hz).symm
 rw [this] at hd;cases y;simp at hd ⊢;exact hd
theorem oF {α:Type} {l:List (κ×α)} {x:κ} {v:α} (h:iC l x=some v):(x,v)∈l:=by
 unfold iC at h;cases hf:l.find? (λp=>decide (p.1=x)) with
 | none=>simp [hf] at h
 | some p=>
  simp only [hf,js,j8] at h;have h1:=List.find?_some hf;have h2:=pC hf;simp at h1;subst h1 h;exact h2
theorem ln {α:Type} {l:List (κ×α)} (hn:(l.map (·.1)).Nodup) {x:κ} {v:α} (h:(x,v)∈l):iC l x=some v:=by
 induction l with
 | nil=>cases h
 | cons p l ih=>
  simp only [bX,eB] at hn;unfold iC;rw [List.find?_cons];rcases bm.1 h with h| h
  .subst h;simp
  .have gx:p.1≠x:=λe=>hn.1 (by rw [e];exact aP.2 ⟨_,h,rfl⟩);simp only [gx,decide_false];exact ih hn.2 h
theorem nS {α:Type} {l:List (κ×α)} {x:κ}:iC l x=none↔∀ p∈l,p.1≠x:=by
 unfold iC;simp [ju]
def mapA (P:Program) (k:TypeId) (b:Nat) (l:List (κ×Value)):Atom:=
 ⟨λ_ h=>∃ es clock,h b=some (.map es clock)/\lQ P k es clock l,λ_ s=>s⟩
variable {P:Program} {k:TypeId} {W:cQ} {g w w':World} {l:List Atom} {b:Nat} {m:List (κ×Value)}
theorem SL.U7 (H:SL W g w (mapA P k b m::l)):∃ es clock,lQ P k es clock m/\SL W g w (obj b (.map es clock)::l):=by
 obtain ⟨h,be,s,ow,h1,h2,ap,rfl,⟨es,clock,e,r⟩,s2⟩:=H;exact ⟨es,clock,r,_,be,s,ow,h1,h2,ap,rfl,e,s2⟩
theorem SL.ahQ {es:Array MapEntry} {clock:Nat} (r:lQ P k es clock m) (H:SL W g w (obj b (.map es clock)::l)):SL W g w (mapA P k b m::l):=by
 obtain ⟨h,be,s,ow,h1,h2,ap,rfl,e,s2⟩:=H;exact ⟨_,be,s,ow,h1,h2,ap,rfl,⟨es,clock,e,r⟩,s2⟩
theorem SL.Pv (H:SL W g w l) (n:xy w b (.map #[] 0) w'):SL W g w' (mapA P k b ([]:List (κ×Value))::l):=by
 refine (H.new n).ahQ ⟨?_,by simp⟩;obtain ⟨es,clock,h1,h2,h3,h4⟩:=World.ownsMap_made w P k eL;have:(World.alloc w (.map #[] 0)).heap[w.heap.size]?=some (.map #[] 0):=heap_alloc_new w _;rw [this] at h1;cases h1;exact h2
theorem SL.Gn (H:SL W g w (mapA P k b m::l)):m.length<=maxLen:=by
 obtain ⟨es,clock,r,_⟩:=H.U7;rw [<-r.size];exact r.fit.size
theorem SL.adi (c:Bool) (H:SL W g w (mapA P k b m::l)) (K:xA P k κ) {t e:TypeId} (ht:P.underlying t=some (.map k e)) {z:Value} (hz:(zeroValue e).run P w= .ok z w) (x:κ) (hx:dF.ok x):
  (Instr.lookup t (.map (some b)) (dF.val x) c).run P w= .ok (if c then .tuple #[(iC m x).getD z,.bool (iC m x).isSome] else (iC m x).getD z) w:=by
 obtain ⟨es,clock,r,H1⟩:=H.U7;have hb:=H1.has 0;have hn:=r.nodup K.keyed;rcases fit_look c K.keyed ht hz hb r.fit (K.of x hx) with ⟨hr,kB,_⟩| ⟨e0,y,he,hke,hr,hy,_⟩
 .have:iC m x=none:=nS.2 λp hp e=>by
   have h1:kC p∈es.toList.map (rg P k eL):=r.perm.mem_iff.2 (aP.2 ⟨p,hp,rfl⟩);obtain ⟨q,hq,hqe⟩:=aP.1 h1;obtain ⟨kl,hk,wW⟩:=mM r.fit hq;rw [wW] at hqe;have:kl=dF.lit p.1:=congrArg Prod.fst hqe;subst this;rw [e] at hk;exact kB q hq (K.inv _ _ hk).1
  rw [this];exact hr
 .have:iC m x=some e0.val:=by
   refine ln hn ?_;obtain ⟨kl,hk,wW⟩:=mM r.fit he;have h1:rg P k eL e0∈m.map kC:=r.perm.mem_iff.1 (aP.2 ⟨e0,he,rfl⟩);obtain ⟨p,hp,Av⟩:=aP.1 h1;rw [wW] at Av;have h2:dF.lit p.1=kl:=congrArg Prod.fst Av;have h3:(DataW.held p.2:DataW Value)= .held e0.val:=congrArg Prod.snd Av;rw [hke,K.of x hx] at hk;have h4:p.1=x:=dF.inj _ _ (h2.trans (aj hk).symm);have h5:p.2=e0.val:=DataW.held.inj h3;rw [<-h4,<-h5];exact hp
  rw [this];exact hr
theorem SL.Pu (H:SL W g w (mapA P k b m::l)) (K:xA P k κ) {t e:TypeId} (ht:P.underlying t=some (.map k e)) (hlen:m.length< maxLen) (x:κ) (hx:dF.ok x) (v:Value):
  ∃ w',(Instr.mapUpdate t (.map (some b)) (dF.val x) v).run P w= .ok () w'/\SL W g w' (mapA P k b (qL m x v)::l):=by
 obtain ⟨es,clock,r,H1⟩:=H.U7;have hb:=H1.has 0;obtain ⟨Om,sW,hr,F',ah7,_⟩:=fit_store (R':=eL) K.keyed ht hb r.fit (by rw [r.size];exact hlen) (λ_ _ _ _ hz=>hz) (K.of x hx) (val:=v) (yv:=(.held v,[])) rfl;refine ⟨_,hr,(H1.zA ⟨rfl,uO hb⟩).ahQ ⟨F',?_⟩⟩;have h1:(Om.toList.map (rg P k eL)).Perm (putKey (dF.lit x) (.held v) ((es.toList.map (rg P k eL)).foldr DataW.insert [])):=by
  rw [<-ah7];exact (sorted_perm _).symm
 refine h1.trans ?_;have h2:∀ (p:Lit×DataW Value) (q:List (Lit×DataW Value)),(DataW.insert p q).Perm (p::q):=λp q=>by
  induction q with
  | nil=>exact List.Perm.refl _
  | cons a q ih=>
   unfold DataW.insert;split;exact List.Perm.refl _;exact (List.Perm.cons a ih).trans (List.Perm.swap _ _ _)
 refine (h2 _ _).trans ?_;unfold qL;rw [bX];refine List.Perm.cons _ ?_;rw [<-P2];exact ((sorted_perm _).trans r.perm).filter _
theorem SL.Yy (H:SL W g w (mapA P k b m::l)) {t e:TypeId} (ht:P.underlying t=some (.map k e)) (ty:TypeId):
  (Builtin.len_ #[t] ty #[.map (some b)]).run P w= .ok (.int .i64 m.length) w:=by
 obtain ⟨es,clock,r,H1⟩:=H.U7;have hb:=H1.has 0;rw [<-r.size];simp [Builtin.len_,run_underlying ht,MapKept.run_getObj_map hb,goInt,Result.andThen]
theorem Vb {es:Array MapEntry} {clock:Nat} (F:Stamped es clock) {seen:Array Nat} {e:MapEntry} (he:e∈(leftOf es seen).toList):(leftOf es seen).toList.Perm (e::(leftOf es (seen.push e.born)).toList):=by
 have CU:=(stamped_iff es clock).1 F;have hem:e∈es.toList:=(mem_left he).1;have hes:=(mem_left he).2;have e1:(leftOf es (seen.push e.born)).toList=(leftOf es seen).toList.filter (λx=> !(x.born==e.born)):=by
  unfold leftOf;simp only [Array.toList_filter,List.filter_filter];apply List.filter_congr;intro x _;rw [contains_push];cases seen.contains x.born<;>cases (x.born==e.born)<;>rfl
 have e2:((leftOf es seen).toList.map (·.born)).Nodup:=by
  have:(leftOf es seen).toList.Sublist es.toList:=by
   unfold leftOf;simp only [Array.toList_filter];exact List.filter_sublist
  exact (this.map _).nodup CU.2.1
 rw [e1];generalize (leftOf es seen).toList=L at he e2;clear e1 hes
 induction L with
 | nil=>cases he
 | cons x L ih=>
  simp only [bX,eB] at e2;rcases bm.1 he with h| h
  .subst h;rw [lU];simp only [beq_self_eq_true,Bool.not_true,eR,if_false];refine List.Perm.cons _ ?_;rw [ka.2 λy hy=>?_];have:y.born≠e.born:=λq=>e2.1 (by rw [<-q];exact aP.2 ⟨y,hy,rfl⟩);simp [this]
  .have:x.born≠e.born:=λq=>e2.1 (by rw [q];exact aP.2 ⟨e,h,rfl⟩);rw [lU];simp only [this,bY,beq_eq_false_iff_ne,ne_eq,not_false_eq_true,if_true];exact (List.Perm.cons x (ih h e2.2)).trans (List.Perm.swap _ _ _)
end
end Go.Lm
namespace Go.Lm
open Go Go.RowKit

theorem Em {P:Program} {w:World} (base:Nat) (t ty e:TypeId) (i:TypeInfo) (z:Value) (size bytes:Nat) (ht:P.underlying t=some (.slice e)) (hi:P.info? e=some i) (hz:i.zero=some z)
  (MV:i.size=size) (hby:i.bytes=bytes) (v:Value) (n:Nat) (xs:List Value) (Jn:w.ownsRow base e size v n xs)
  (a:Addr) (m c:Nat) (news:List Value) (hl:news.length=m*size) (YZ:∀ j u,news[j]?=some u->w.cell? (a.add j)=some u) (h1:∀ u∈news,u.oneCell'=true)
  (h63:n+m<=maxLen) (PS:(n+m)*bytes<=140737488355328) {v':Value} {w':World} (hr:(Builtin.append_ #[t,t] ty #[v,.slice (some a) m c]).run P w= .ok v' w'):
  ∀ k,v'.ownBlock=some k->v.ownBlock=some k\/w.heap.size<=k:=by
 subst MV;subst hby
 have ah4:n+m<=9223372036854775807:=by simp only [maxLen] at h63;omega
 rcases Jn.2 with ⟨rfl,rfl⟩| ⟨g,cap,cur,rfl,hbg,hg,hnc,ff,wY,GA⟩
 .by_cases hm:m=0
  .subst hm;have gG:(Builtin.append_ #[t,t] ty #[.slice none 0 0,.slice (some a) 0 c]).run P w= .ok (.slice none 0 0) w:=by
    simp [Builtin.append_,run_underlying ht,sizeOf,typeInfo,hi,Builtin.lenOf,Builtin.firstCells,loadCells,loadCellsFrom]
   rw [gG] at hr;cases hr;intro k hk;simp [Value.ownBlock] at hk
  .rw [run_append_nil (P:=P) w t ty e i z ht hi hz a m c news hl YZ (by omega) (by omega) (by have hb:=PS;simp only [bW] at hb;omega)] at hr;cases hr;intro k hk;have:w.heap.size=k:=by simpa [Value.ownBlock] using hk
   exact .inr (by omega)
 .by_cases SJ:n+m<=cap
  .have an8:n*i.size+news.length<=cur.size:=by rw [hl,wY,<-fg];exact gR _ SJ
   rw [run_append_room (P:=P) w t ty e i ht hi g n cap cur hg a m c news hl YZ h1 SJ an8] at hr;cases hr;exact λk hk=>.inl hk
  .have holds:∀ j u,xs[j]?=some u->w.cell? ((⟨g,0,none⟩:Addr).add j)=some u:=Jn.cells (g:=g) rfl;rw [run_append_grow (P:=P) w t ty e i z ht hi hz ⟨g,0,none⟩ n cap xs Jn.1 holds a m c news hl YZ (by omega) (by omega) (growslice_fits (by omega) PS)] at hr;cases hr;intro k hk;have:w.heap.size=k:=by simpa [Value.ownBlock] using hk
   exact .inr (by omega)
theorem ug {P:Program} (w:World) (t ty e:TypeId) (i:TypeInfo) (ht:P.underlying t=some (.slice e)) (hi:P.info? e=some i) {base:Nat} {v:Value} {n:Nat} {xs:List Value} (Jn:w.ownsRow base e i.size v n xs):
  (Builtin.append_ #[t,t] ty #[v,.slice none 0 0]).run P w= .ok v w:=by
 rcases Jn.2 with ⟨rfl,rfl⟩| ⟨g,cap,cur,rfl,hbg,hg,hnc,ff,wY,GA⟩;simp [Builtin.append_,run_underlying ht,sizeOf,typeInfo,hi,Builtin.lenOf,Builtin.firstCells];simp [Builtin.append_,run_underlying ht,sizeOf,typeInfo,hi,Builtin.lenOf,Builtin.firstCells,hnc,storeCells]
def uh (e:TypeId) (size:Nat) (v:Value) (n:Nat) (xs:List Value):Atom:=
 ⟨λ_ h=>xs.length=n*size/\((v= .slice none 0 0/\n=0)\/
  ∃ k cap cur,v= .slice (some ⟨k,0,none⟩) n cap/\h k=some (.cells cur e (0,0))/\n<=cap/\cap<=maxLen/\cur.size=cap*size/\cur.toList.take (n*size)=xs),λ_ s=>s⟩
section
variable {W:cQ} {g w w':World} {l:List Atom} {e:TypeId} {size n:Nat} {v:Value} {xs:List Value}
theorem SL.row (H:SL W g w (uh e size v n xs::l)):w.ownsRow W.n e size v n xs:=by
 obtain ⟨h,be,s,ow,h1,h2,ap,rfl,⟨hl,hv⟩,s2⟩:=H;refine ⟨hl,?_⟩;rcases hv with hv| ⟨k,cap,cur,rfl,hk,r⟩;exact .inl hv
 .obtain ⟨o1,o2,o3⟩:=ow k _ (Hp.fJ hk);exact .inr ⟨k,cap,cur,rfl,o1,o2,r⟩
theorem SL.XV (e:TypeId) (size:Nat) (H:SL W g w l):SL W g w (uh e size (.slice none 0 0) 0 []::l):=
 H.cz λh s=>⟨λ_=>none,h,λ_=>.inl rfl,rfl,⟨by simp,.inl ⟨rfl,rfl⟩⟩,s⟩
theorem SL.wc {b cap:Nat} {cur:Array Value} (n:Nat) (H:SL W g w (Lm.oP b cur e::l)) (hn:n<=cap) (hm:cap<=maxLen) (hs:cur.size=cap*size):
  SL W g w (uh e size (.slice (some ⟨b,0,none⟩) n cap) n (cur.toList.take (n*size))::l):=H.cz λ_ ⟨h1,h2,ap,q,s1,s2⟩=>
 ⟨h1,h2,ap,q,⟨by
  have:n*size<=cap*size:=gR _ hn;simp;omega,.inr ⟨b,cap,cur,rfl,s1,hn,hm,hs,rfl⟩⟩,s2⟩
theorem SL.ofRow (H:SL W g w (uh e size v n xs::l)):(v= .slice none 0 0/\n=0/\xs= []/\SL W g w l)\/
  ∃ k cap cur,v= .slice (some ⟨k,0,none⟩) n cap/\n<=cap/\cap<=maxLen/\cur.size=cap*size/\cur.toList.take (n*size)=xs/\SL W g w (Lm.oP k cur e::l):=by
 obtain ⟨h,be,s,ow,h1,h2,ap,rfl,⟨hl,hv⟩,s2⟩:=H;rcases hv with ⟨rfl,rfl⟩| ⟨k,cap,cur,rfl,hk,r1,r2,r3,r4⟩
 .refine .inl ⟨rfl,rfl,aJ (by simpa using hl),h2,be,s,λk x hx=>ow k x ?_,s2⟩;rcases ap k with q| q
  .rw [Hp.mj q];exact hx
  .rw [q] at hx;cases hx
 .exact .inr ⟨k,cap,cur,rfl,r1,r2,r3,r4,_,be,s,ow,h1,h2,ap,rfl,hk,s2⟩
theorem SL.grown {v':Value} {n':Nat} {xs':List Value} (H:SL W g w (uh e size v n xs::l)) (ho:w'.ownsRow W.n e size v' n' xs') (hg:w.grownBy w' v.ownBlock)
  (hw:∀ k,v'.ownBlock=some k->v.ownBlock=some k\/w.heap.size<=k):SL W g w' (uh e size v' n' xs'::l):=by
 have eK:=H.row.lt;obtain ⟨h,be,s,ow,h1,h2,ap,rfl,⟨hl,hv⟩,s2⟩:=H;have hb:Below W.n W.w w':=be.trans ((Below.refl _ w).grown hg be.size λk hk=>(eK k hk).1);have aic:∀ k,v.ownBlock=some k->tm g k/\∃ o,h1 k=some o:=λk hk=>by
  rcases hv with ⟨rfl,_⟩| ⟨k',cap,cur,rfl,vS,_⟩;simp [Value.ownBlock] at hk
  .have:k'=k:=by simpa [Value.ownBlock] using hk
   subst this;exact ⟨(ow k' _ (Hp.fJ vS)).2.2,_,vS⟩
 have hs:qi W g w':=by
  refine ⟨⟨Nat.le_trans s.size hg.size,λa x hx=>?_⟩,s.agr⟩;have h1:=s.mono a x hx;have eK:=World.block_lt_of_cell? w a h1;have gx:some a.block≠v.ownBlock:=λq=>by
   have:=(aic a.block q.symm).1 a rfl;rw [this] at hx;cases hx
  rw [World.cell?_of_block (hg.block a.block eK gx)];exact h1
 have rest:∀ k x,h2 k=some x->W.n<=k/\w'.heap[k]?=some x/\tm g k/\k< w.heap.size/\v.ownBlock≠some k:=λk x hx=>by
  have h1k:h1 k=none:=by
   rcases ap k with q| q;exact q;rw [q] at hx;cases hx
  obtain ⟨o1,o2,o3⟩:=ow k x (by rw [Hp.mj h1k];exact hx);have gx:v.ownBlock≠some k:=λq=>by
   obtain ⟨_,o,ho⟩:=aic k q;rw [h1k] at ho;cases ho
  exact ⟨o1,by rw [hg.block k (uO o2) (Ne.symm gx)];exact o2,o3,uO o2,gx⟩
 rcases ho.2 with ⟨rfl,rfl⟩| ⟨k',Zy,adX,rfl,hbk,vS,r⟩;exact ⟨h2,hb,hs,λk x hx=>⟨(rest k x hx).1,(rest k x hx).2.1,(rest k x hx).2.2.1⟩,λ_=>none,h2,λ_=>.inl rfl,rfl,⟨ho.1,.inl ⟨rfl,rfl⟩⟩,s2⟩
 .have hwk:=hw k' rfl;have h2k:h2 k'=none:=by
   cases hq:h2 k' with
   | none=>rfl
   | some x=>
    obtain ⟨_,_,_,q1,q2⟩:=rest k' x hq;rcases hwk with z| z;exact absurd z q2;omega
  refine ⟨Hp.join (λq=>if q=k' then some (.cells adX e (0,0)) else none) h2,hb,hs,λq x hq=>?_,_,h2,λq=>?_,rfl,⟨ho.1,.inr ⟨k',Zy,adX,rfl,if_pos rfl,r⟩⟩,s2⟩
  .by_cases eq:q=k'
   .subst eq;have:x= .cells adX e (0,0):=by unfold Hp.join at hq;simp at hq;exact hq.symm
    subst this;refine ⟨hbk,vS,?_⟩;rcases hwk with z| z;exact (aic q z).1
    .intro a ha;cases hc:g.cell? a with
     | none=>rfl
     | some x=>
      have h3:=World.block_lt_of_cell? g a hc;have h4:=s.size;omega
   .have SK:h2 q=some x:=by unfold Hp.join at hq;simpa [eq] using hq
    obtain ⟨o1,o2,o3,_⟩:=rest q x SK;exact ⟨o1,o2,o3⟩
  .by_cases eq:q=k'
   .subst eq;exact .inr h2k
   .left;simp [eq]
end

theorem eC.length {α:Type} [aO α] {g:World}:∀ {cs:List (List Value)} {xs:List α},eC g cs xs->cs.length=xs.length/\cs.flatten.length=xs.length*aO.size α
 | [],[],_=>⟨rfl,by simp⟩
 | c::cs,x::xs,h=>by
  obtain ⟨h1,h2⟩:=eC.length h.2;have h3:=aO.len h.1;refine ⟨by simp [h1],?_⟩;rw [bI,af,h2,h3,aq,fg];omega
theorem eC.append {α:Type} [aO α] {g:World}:∀ {cs ds:List (List Value)} {xs ys:List α},eC g cs xs->eC g ds ys->eC g (cs++ds) (xs++ys)
 | [],_,[],_,_,h=>h
 | _::_,_,_::_,_,h,k=>⟨h.1,eC.append h.2 k⟩
def BK {α:Type} [aO α] (e:TypeId) (v:Value) (xs:List α):Atom:=
 ⟨λg h=>∃ cs:List (List Value),eC g cs xs/\(uh e (aO.size α) v xs.length cs.flatten).sat g h,λm ⟨cs,r,s⟩=>⟨cs,r.mono m,s⟩⟩
section
variable {α:Type} [aO α] {W:cQ} {g w w':World} {l:List Atom} {e:TypeId} {v:Value} {xs:List α}
theorem SL.pj (H:SL W g w (BK e v xs::l)):∃ cs:List (List Value),eC g cs xs/\SL W g w (uh e (aO.size α) v xs.length cs.flatten::l):=by
 obtain ⟨h,be,s,ow,h1,h2,ap,rfl,⟨cs,r,q⟩,s2⟩:=H;exact ⟨cs,r,_,be,s,ow,h1,h2,ap,rfl,q,s2⟩
theorem SL.XE {cs:List (List Value)} (r:eC g cs xs) (H:SL W g w (uh e (aO.size α) v xs.length cs.flatten::l)):SL W g w (BK e v xs::l):=
 H.cz λ_ ⟨h1,h2,ap,q,s1,s2⟩=>⟨h1,h2,ap,q,⟨cs,r,s1⟩,s2⟩
theorem SL.zD (α:Type) [aO α] (e:TypeId) (H:SL W g w l):SL W g w (BK (α:=α) e (.slice none 0 0) []::l):=(H.XV e (aO.size α)).XE (cs:=[]) trivial
theorem SL.XD (H:SL W g w (BK e v xs::l)):abw g w W.n e v xs:=by
 obtain ⟨cs,r,H1⟩:=H.pj;exact ⟨cs,r,H1.row⟩
theorem SL.aeP (H:SL W g w (BK e v xs::l)):Is w v xs:=H.XD.is H.m λ_ _=>rfl
theorem SL.qt (H:SL W g w (BK e v xs::l)):∃ g',bx g g'/\SL W g' w l/\Is g' v xs:=by
 have ho:=H.XD;obtain ⟨cs,r,H1⟩:=H.pj;rcases H1.ofRow with ⟨rfl,hn,hx,H2⟩| ⟨k,cap,cur,rfl,h1,h2,h3,h4,H2⟩
 .refine ⟨g,bx.refl g,H2,?_⟩;have:xs= []:=aJ hn;subst this;exact ahU g
 .obtain ⟨g',m,H3,hc⟩:=H2.afj;refine ⟨g',m,H3,dv.2 (.inr ⟨⟨k,0,none⟩,cap,rfl,h1,h2,λi x hx=>?_⟩)⟩;obtain ⟨c,hr,Jp⟩:=r.get i x hx;refine ⟨c,λj v hj=>?_,aO.mono m hr⟩;rw [Addr.add_mid,hc];have h5:=Jp j v hj;rw [<-h4,ez] at h5;split at h5
  .simpa using h5
  .cases h5
theorem Nz {ys:List α} {a:Addr} {n c:Nat} (h:Is w (.slice (some a) n c) ys):n=ys.length/\∃ ds:List (List Value),eC w ds ys/\∀ j u,ds.flatten[j]?=some u->w.cell? (a.add j)=some u:=by
 rcases dv.1 h with ⟨h,_⟩| ⟨a',cap,h,_,_,h3⟩;cases h
 .cases h;refine ⟨rfl,?_⟩;clear h;have key:∀ (ys:List α) (a:Addr),(∀ (i:Nat) (x:α),ys[i]?=some x->∃ cs:List Value,(∀ (j:Nat) (c:Value),cs[j]?=some c->w.cell? (a.add (i*aO.size α+j))=some c)/\aO.rel w cs x)->
    ∃ ds:List (List Value),eC w ds ys/\∀ j u,ds.flatten[j]?=some u->w.cell? (a.add j)=some u:=by
   intro ys
   induction ys with
   | nil=>exact λ_ _=>⟨[],trivial,λj u h=>by simp at h⟩
   | cons y ys ih=>
    intro a h;obtain ⟨c,h1,h2⟩:=h 0 y rfl;have hl:=aO.len h2;obtain ⟨ds,h4,h5⟩:=ih (a.add (aO.size α)) λi x hx=>by
     obtain ⟨cs,q1,q2⟩:=h (i+1) x (by simpa using hx);refine ⟨cs,λj c hj=>?_,q2⟩;have:=q1 j c hj;rw [Go.Deep.add_add,<-this];congr 2;rw [fg];omega
    refine ⟨c::ds,⟨h2,h4⟩,λj u hj=>?_⟩;rw [bI] at hj;by_cases Oh:j< c.length
    .rw [aV Oh] at hj;have:=h1 j u hj;rw [<-this];congr 2;omega
    .rw [a8 (by omega)] at hj;have:=h5 _ u hj;rw [Go.Deep.add_add] at this;rw [<-this];congr 2;omega
  exact key ys a h3
theorem Dj {ys:List α} {a:Addr} {n c:Nat} {g w:World} (h:Is g (.slice (some a) n c) ys) (m:bx g w):n=ys.length/\∃ ds:List (List Value),eC g ds ys/\∀ j u,ds.flatten[j]?=some u->w.cell? (a.add j)=some u:=by
 obtain ⟨h1,ds,h2,h3⟩:=Nz h;exact ⟨h1,ds,h2,λj u hj=>m _ _ (h3 j u hj)⟩
class iF (α:Type) [aO α]:Prop where
 one:∀ {g:World} {cs:List Value} {x:α},aO.rel g cs x->∀ u∈cs,u.oneCell'=true
theorem eC.one [iF α] {g:World}:∀ {cs:List (List Value)} {xs:List α},eC g cs xs->∀ u∈cs.flatten,u.oneCell'=true
 | [],[],_,u,h=>by simp at h
 | c::cs,x::xs,h,u,hu=>by
  rw [bI,aY] at hu;rcases hu with hu| hu;exact iF.one h.1 u hu;exact eC.one h.2 u hu
instance:iF Int:=⟨λh u hu=>by rw [h.1] at hu;simp at hu;rw [hu];rfl⟩
instance:iF Bool:=⟨λh u hu=>by rw [show _=_ from h] at hu;simp at hu;rw [hu];rfl⟩
instance:iF UInt8:=⟨λh u hu=>by rw [show _=_ from h] at hu;simp at hu;rw [hu];rfl⟩
instance:iF ByteArray:=⟨λh u hu=>by rw [h.1] at hu;simp at hu;rw [hu];rfl⟩
instance:iF (List α):=⟨λh u hu=>by
 obtain ⟨v,rfl,hv⟩:=h;simp at hu;subst hu;rcases hv with ⟨rfl,_⟩| ⟨a,cap,rfl,_⟩<;>rfl⟩
def Rd {α:Type} [aO α] (g w:World) (y:Value) (ys:List α):Prop:=
 (y= .slice none 0 0/\ys= [])\/∃ a c,y= .slice (some a) ys.length c/\ys.length<=c/\c<=maxLen/\∃ ds:List (List Value),eC g ds ys/\∀ j u,ds.flatten[j]?=some u->w.cell? (a.add j)=some u
theorem Is.rd {y:Value} {ys:List α} (h:Is g y ys) (m:bx g w):Rd g w y ys:=by
 rcases dv.1 h with ⟨rfl,rfl⟩| ⟨a,cap,rfl,h1,h2,_⟩;exact .inl ⟨rfl,rfl⟩
 .obtain ⟨_,ds,h3,h4⟩:=Dj h m;exact .inr ⟨a,cap,rfl,h1,h2,ds,h3,h4⟩
theorem SL.akF (H:SL W g w (BK e v xs::l)):Rd g w v xs:=by
 obtain ⟨cs,r,H1⟩:=H.pj;have rO:=H1.row;rcases rO.2 with ⟨rfl,h0⟩| ⟨k,cap,cur,rfl,_,_,h1,h2,_⟩;exact .inl ⟨rfl,aJ h0⟩;exact .inr ⟨⟨k,0,none⟩,cap,rfl,h1,h2,cs,r,rO.cells (g:=k) rfl⟩
theorem eC.part {g:World}:∀ {cs:List (List Value)} {xs:List α} (i n:Nat),eC g cs xs->eC g ((cs.drop i).take n) ((xs.drop i).take n)
 | cs,xs,0,0,_=>by simp [eC]
 | [],[],0,_+1,_=>trivial
 | _::_,_::_,0,n+1,h=>⟨h.1,by simpa using eC.part 0 n h.2⟩
 | [],[],i+1,n,h=>by simp [eC]
 | _::cs,_::xs,i+1,n,h=>by simpa using eC.part i n h.2
theorem eC.Jw {g:World}:∀ {cs:List (List Value)} {xs:List α} (i:Nat),eC g cs xs->i<=xs.length->(cs.take i).flatten.length=i*aO.size α
 | _,_,0,_,_=>by simp
 | [],[],i+1,_,hi=>by simp at hi
 | c::cs,x::xs,i+1,h,hi=>by
  have:=eC.Jw i h.2 (by simpa using hi);simp only [List.take_succ_cons,bI,af,this,aO.len h.1,fg];omega
theorem Rd.slice {y:Value} {ys:List α} {a b:Int} (h:Rd g w y ys) (ha:0<=a) (hab:a<=b) (hb:b<=ys.length):
  Rd g w (jg (aO.size α) y a b) ((ys.drop a.toNat).take (b.toNat - a.toNat)):=by
 rcases h with ⟨rfl,rfl⟩| ⟨ad,c,rfl,h1,h2,ds,h3,h4⟩
 .left;simp at hb;have h1:b=0:=by omega
  have h2:a=0:=by omega
  subst h1 h2;exact ⟨rfl,rfl⟩
 .have hlen:((ys.drop a.toNat).take (b.toNat - a.toNat)).length=b.toNat - a.toNat:=by simp;omega
  refine .inr ⟨if c=a.toNat then ad else ad.add (a.toNat*aO.size α),c - a.toNat,?_,by rw [hlen];omega,by omega,(ds.drop a.toNat).take (b.toNat - a.toNat),h3.part _ _,λj u hj=>?_⟩
  .rw [hlen];unfold jg;simp only [js];split<;>rfl
  .by_cases he:b.toNat - a.toNat=0
   .rw [he] at hj;simp at hj
   .rw [if_neg (by omega),Go.Deep.add_add];refine h4 _ u ?_;have e1:ds=ds.take a.toNat++((ds.drop a.toNat).take (b.toNat - a.toNat)++(ds.drop a.toNat).drop (b.toNat - a.toNat)):=by rw [cv,cv]
    rw [e1,eU,eU,a8 (by rw [h3.Jw a.toNat (by omega)];omega),h3.Jw a.toNat (by omega)];rw [aV (by
     have:=(au.1 hj).1;omega)]
    rw [show a.toNat*aO.size α+j - a.toNat*aO.size α=j by omega];exact hj
theorem SL.append {P:Program} {t ty:TypeId} {bytes:Nat} [iF α] (H:SL W g w (BK e v xs::l)) {y:Value} {ys:List α} (hy:Rd g w y ys)
  (ht:P.underlying t=some (.slice e)) (hi:(P.info? e).map (λi=>(i.size,i.bytes,i.zero.isSome))=some (aO.size α,bytes,true)) (hz:((P.info? e).bind (·.zero)).map (·.cells.size)=some (aO.size α)) (sO:0< aO.size α)
  (hlen:(xs.length+ys.length)*bytes<=140737488355328) (ap9:xs.length+ys.length<=9223372036854775807):
  ∃ v' w',(Builtin.append_ #[t,t] ty #[v,y]).run P w= .ok v' w'/\SL W g w' (BK e v' (xs++ys)::l)/\(v'= .slice none 0 0->v= .slice none 0 0/\ys= []):=by
 cases hq:P.info? e with
 | none=>simp [hq] at hi
 | some i=>
  simp only [hq,js,j8,Prod.mk.injEq,oU] at hi hz;obtain ⟨hs,hby,hzz⟩:=hi;cases SH:i.zero with
  | none=>simp [SH] at hzz
  | some z=>
   simp only [SH,js,j8] at hz;obtain ⟨cs,hrel,H1⟩:=H.pj;have rO:=H1.row;have H2:=H;rcases hy with ⟨rfl,rfl⟩| ⟨a,cap,rfl,Jq,ff,ds,Vo,o7⟩
   .have gG:=ug (P:=P) w t ty e i ht hq (base:=W.n) (v:=v) (n:=xs.length) (xs:=cs.flatten) (by rw [hs];exact rO);exact ⟨v,w,gG,by simpa using H2,λq=>⟨q,rfl⟩⟩
   .have afn:=(eC.length Vo).2;obtain ⟨v',w',gG,YX,M3,Vl⟩:=run_append_own (P:=P) w W.n t ty e i z (aO.size α) bytes ht hq SH hs hby hz sO v xs.length cs.flatten rO a ys.length cap ds.flatten afn
     o7 (eC.one Vo) (by unfold maxLen;omega) hlen H.size
    have PG:=Em (P:=P) W.n t ty e i z (aO.size α) bytes ht hq SH hs hby v xs.length cs.flatten rO a ys.length cap ds.flatten afn o7 (eC.one Vo) (by unfold maxLen;omega) hlen gG;refine ⟨v',w',gG,?_,λq=>⟨(Vl.1 q).1,aJ (Vl.1 q).2⟩⟩;refine SL.XE (cs:=cs++ds) (hrel.append Vo) ?_;have e1:(cs++ds).flatten=cs.flatten++ds.flatten:=by simp
    rw [e1,af];exact H1.grown YX M3 PG
end
theorem cells_slice1 {P:Program} {w:World} {r:Reach} {base:Nat} {t e:TypeId} {v:Value} (ht:P.underlying t=some (.slice e)) (h:Value.okWide P w r base t v):v.cells= #[v]:=by
 obtain ⟨a,l,c,rfl⟩:=WideShapes.okWide_slice ht h;rfl
theorem okWide_int_wf {P:Program} {w:World} {r:Reach} {base base2:Nat} {t:TypeId} {v:Value} {H:Type} {enc:TypeId×Value->H} {spare:Nat->Bool} {held:Bool} {d:DataW H} {ps:List MemPlace} (ht:P.underlying t=some (.int .i64)) (h:Value.okWide P w r base t v) (k:DataW.Trod enc P w base2 spare held t v d ps):
  ∃ n,v= .int .i64 n/\(Lit.int .i64 n).wf=true:=by
 obtain ⟨i,rfl⟩:=WideShapes.okWide_int ht h;obtain ⟨x,hx⟩:=Mv (UY ht) rfl rfl k;have e:aO.rel w [Value.int .i64 i] x:=by
  unfold Is at hx;rw [if_neg (by simp [aO.agg])] at hx;exact hx
 obtain ⟨e1,e2⟩:=e;cases e1;exact ⟨i,rfl,e2⟩
end Go.Lm

namespace Go.Lm
open Go Go.RowKit
section
variable {P:Program}
end
end Go.Lm
namespace Go.Lm
open Go Go.RowKit
section
variable {P:Program}
theorem JS {ρ:Operand->Value} {w:World} {o:Oper} {x:Operand} {t k e:TypeId} (ho:o.op= .call {callee:=.builtin .len,args:= #[x],argTypes:= #[t]}) (ht:P.underlying t=some (.map k e)) (hx:ρ x= .map none):
  (execOp ρ o).run P w= .ok (.value (.int .i64 0)) w:=by
 simp [execOp,ho,resolve,invoke,builtin,hx,Maps.len_nil ht]
end
end Go.Lm
namespace Go.Lm
open Go Go.RowKit Go.Maps Go.ChangeMaps
open Go.WideElems (Fit rd rg pl rd_key rd_val rg_of)
open Go.WideShapes (sorted_perm)
open Go.MapKept
section
variable {κ:Type} [dF κ] {P:Program} {k:TypeId}
def V4 (P:Program) (k:TypeId) (w:World) (v:Value) (ob:Array MapEntry×Nat) (m:List (κ×Value)):Prop:=
 (v= .map none/\m= [])\/∃ b,v= .map (some b)/\w.heap[b]?=some (.map ob.1 ob.2)/\lQ P k ob.1 ob.2 m
def JW (P:Program) (k:TypeId) (w:World) (v:Value) (m:List (κ×Value)):Prop:=∃ ob,V4 P k w v ob m
variable {w w':World} {v:Value} {ob:Array MapEntry×Nat} {m:List (κ×Value)}
theorem JW.nodup (h:JW P k w v m) (K:xA P k κ):(m.map (·.1)).Nodup:=by
 obtain ⟨ob,h| ⟨b,_,_,h⟩⟩:=h;rw [h.2];simp;exact h.nodup K.keyed
theorem JW.YB (h:JW P k w v m):m.length<=maxLen:=by
 obtain ⟨ob,h| ⟨b,_,_,h⟩⟩:=h;rw [h.2];simp;rw [<-h.size];exact h.fit.size
theorem JW.len {t e:TypeId} (h:JW P k w v m) (ht:P.underlying t=some (.map k e)) (ty:TypeId):(Builtin.len_ #[t] ty #[v]).run P w= .ok (.int .i64 m.length) w:=by
 obtain ⟨ob,⟨rfl,rfl⟩| ⟨b,rfl,hb,r⟩⟩:=h;rw [Maps.len_nil ht];rfl
 .rw [<-r.size];simp [Builtin.len_,run_underlying ht,MapKept.run_getObj_map hb,goInt,Result.andThen]
theorem JW.look (c:Bool) (h:JW P k w v m) (K:xA P k κ) {t e:TypeId} (ht:P.underlying t=some (.map k e)) {z:Value} (hz:(zeroValue e).run P w= .ok z w) (x:κ) (hx:dF.ok x):
  (Instr.lookup t v (dF.val x) c).run P w= .ok (if c then .tuple #[(iC m x).getD z,.bool (iC m x).isSome] else (iC m x).getD z) w:=by
 obtain ⟨ob,⟨rfl,rfl⟩| ⟨b,rfl,hb,r⟩⟩:=h
 .have:=Maps.look_nil c K.keyed ht hz (K.of x hx);exact this
 .have hn:=r.nodup K.keyed;rcases fit_look c K.keyed ht hz hb r.fit (K.of x hx) with ⟨hr,kB,_⟩| ⟨e0,y,he,hke,hr,hy,_⟩
  .have:iC m x=none:=nS.2 λp hp e=>by
    have h1:kC p∈ob.1.toList.map (rg P k eL):=r.perm.mem_iff.2 (aP.2 ⟨p,hp,rfl⟩);obtain ⟨q,hq,hqe⟩:=aP.1 h1;obtain ⟨kl,hk,wW⟩:=mM r.fit hq;rw [wW] at hqe;have:kl=dF.lit p.1:=congrArg Prod.fst hqe;subst this;rw [e] at hk;exact kB q hq (K.inv _ _ hk).1
   rw [this];exact hr
  .have:iC m x=some e0.val:=by
    refine ln hn ?_;obtain ⟨kl,hk,wW⟩:=mM r.fit he;have h1:rg P k eL e0∈m.map kC:=r.perm.mem_iff.1 (aP.2 ⟨e0,he,rfl⟩);obtain ⟨p,hp,Av⟩:=aP.1 h1;rw [wW] at Av;have h2:dF.lit p.1=kl:=congrArg Prod.fst Av;have h3:(DataW.held p.2:DataW Value)= .held e0.val:=congrArg Prod.snd Av;rw [hke,K.of x hx] at hk;have h4:p.1=x:=dF.inj _ _ (h2.trans (aj hk).symm);have h5:p.2=e0.val:=DataW.held.inj h3;rw [<-h4,<-h5];exact hp
   rw [this];exact hr
variable {W:cQ} {g:World} {l:List Atom}
theorem SL.adh {b:Nat} (H:SL W g w (mapA P k b m::l)):JW P k w (.map (some b)) m:=by
 obtain ⟨es,clock,r,H1⟩:=H.U7;exact ⟨(es,clock),.inr ⟨b,rfl,H1.has 0,r⟩⟩
def MR (P:Program) (k:TypeId) (v:Value) (ob:Array MapEntry×Nat) (r:Nat) (left:List (κ×Value)):Atom:=
 ⟨λ_ h=>(v= .map none/\left= []/\∃ a s c,h r=some (.mapIter none a s c))\/
  ∃ b since seen c0,v= .map (some b)/\h r=some (.mapIter (some b) since seen c0)/\(∀ x∈ob.1.toList,x.born< since)/\since<=c0/\since<=ob.2/\((leftOf ob.1 seen).toList.map (rg P k eL)).Perm (left.map kC),λ_ s=>s⟩
theorem UE {t e:TypeId} (h:V4 P k w v ob m) (ht:P.underlying t=some (.map k e)):
  ∃ o,(Instr.range t v).run P w= .ok (.pointer (some ⟨w.heap.size,0,none⟩)) (w.alloc o)/\∀ {W:cQ} {g:World} {l:List Atom},SL W g w l->SL W g (w.alloc o) (MR P k v ob w.heap.size m::l):=by
 rcases h with ⟨rfl,rfl⟩| ⟨b,rfl,hb,r⟩
 .refine ⟨_,run_range_nilMap w t k e ht,λH=>?_⟩;exact (H.new (xy.mk' w _)).cz λ_ ⟨h1,h2,ap,e,s1,s2⟩=>⟨h1,h2,ap,e,.inl ⟨rfl,rfl,_,_,_,s1⟩,s2⟩
 .refine ⟨_,run_range_map w t k e b ob.1 ob.2 ht hb,λH=>?_⟩;refine (H.new (xy.mk' w _)).cz λ_ ⟨h1,h2,ap,e,s1,s2⟩=>⟨h1,h2,ap,e,.inr ⟨b,ob.2,#[],ob.2,rfl,s1,r.fit.stamped.1,ay _,ay _,?_⟩,s2⟩;have:(leftOf ob.1 #[]).toList=ob.1.toList:=by simp [leftOf]
  rw [this];exact r.perm
theorem HS {w:World} {r a c:Nat} {s:Array Nat} (ty:TypeId) (hr:w.heap[r]?=some (.mapIter none a s c)):(Instr.next (.pointer (some ⟨r,0,none⟩)) false ty).run P w= .ok (.tuple #[.bool false]) w:=by
 simp only [Instr.next,getObj,Sem.run_bind,Sem.run,hr,Result.andThen]
 rfl
theorem xu {ρ:Operand->Value} {o:Oper} {x y:Operand} {t:TypeId} {c:Bool} {mv kv r:Value} (ho:o.op= .lookup t x y c) (hx:ρ x=mv) (hy:ρ y=kv) (h:(Instr.lookup t mv kv c).run P w= .ok r w):
  (execOp ρ o).run P w= .ok (.value r) w:=by
 simp [execOp,ho,hx,hy,h]
theorem zj {ρ:Operand->Value} {o:Oper} {t:TypeId} (ho:o.op= .makeMap t none):(execOp ρ o).run P w= .ok (.value (.map (some w.heap.size))) (w.alloc (.map #[] 0)):=by
 simp [execOp,ho,Instr.makeMap,go_sem]
theorem N4 {ρ:Operand->Value} {o:Oper} {x y z:Operand} {t:TypeId} {mv kv vv:Value} {w':World} (ho:o.op= .mapUpdate t x y z) (hx:ρ x=mv) (hy:ρ y=kv) (hz:ρ z=vv) (h:(Instr.mapUpdate t mv kv vv).run P w= .ok () w'):
  (execOp ρ o).run P w= .ok .skip w':=by
 simp [execOp,ho,hx,hy,hz,h]
end
end Go.Lm
namespace Go.Lm
open Go Go.RowKit Go.Maps Go.ChangeMaps
open Go.WideElems (Fit rd rg pl rd_key rd_val rg_of)
open Go.WideShapes (sorted_perm)
open Go.MapKept
section
variable {κ:Type} [dF κ] {P:Program} {k:TypeId} {W:cQ} {g w:World} {l:List Atom} {v:Value} {ob:Array MapEntry×Nat} {m:List (κ×Value)}
def mD (P:Program) (k:TypeId) (v:Value) (ob:Array MapEntry×Nat) (r:Nat) (left:List (κ×Value)) (cur:Option (κ×Value)):Atom:=
 ⟨λg h=>(MR P k v ob r left).sat g h/\∀ x y,cur=some (x,y)->∃ b since seen e,v= .map (some b)/\h r=some (.mapIter (some b) since (Array.push seen (MapEntry.born e)) ob.2)/\e∈ob.1.toList/\e.key=dF.val x/\e.val=y,λmm s=>⟨(MR P k v ob r left).mono mm s.1,s.2⟩⟩
theorem SL.ahS {r:Nat} {left:List (κ×Value)} {cur:Option (κ×Value)} (H:SL W g w (mD P k v ob r left cur::l)):SL W g w (MR P k v ob r left::l):=H.cz λ_ ⟨h1,h2,ap,e,s1,s2⟩=>⟨h1,h2,ap,e,s1.1,s2⟩
theorem SL.ahT {r:Nat} {left:List (κ×Value)} (H:SL W g w (MR P k v ob r left::l)):SL W g w (mD P k v ob r left none::l):=H.cz λ_ ⟨h1,h2,ap,e,s1,s2⟩=>⟨h1,h2,ap,e,⟨s1,λ_ _ h=>by cases h⟩,s2⟩
theorem SL.Vg {r:Nat} {left:List (κ×Value)} {x:κ} {y:Value} (H:SL W g w (mD P k v ob r left (some (x,y))::l)) (hm:V4 P k w v ob m):(Instr.entry (.pointer (some ⟨r,0,none⟩))).run P w= .ok (.tuple #[dF.val x,y]) w:=by
 obtain ⟨h,be,s,ow,h1,h2,ap,rfl,⟨_,q⟩,s2⟩:=H;obtain ⟨b,since,seen,e,hv,hr,hem,hk,hy⟩:=q x y rfl;rcases hm with ⟨hm,_⟩| ⟨b',hm,Y8,rep⟩;rw [hv] at hm;cases hm;have:b=b':=by rw [hv] at hm;cases hm;rfl
 subst this;have hrw:=(ow r _ (Hp.fJ hr)).2.1;obtain ⟨es,clock⟩:=ob;rw [<-hk,<-hy];exact run_entry_at _ r b since seen es clock e hrw Y8 hem ((stamped_iff es clock).1 rep.fit.stamped).2.1
theorem SL.PC {r:Nat} {left:List (κ×Value)} {x:κ} {y:Value} (H:SL W g w (mD P k v ob r left (some (x,y))::l)) (hm:V4 P k w v ob m) (K:xA P k κ) (an4:∀ a b:κ,dF.val a=dF.val b->a=b):dF.ok x/\(x,y)∈m:=by
 obtain ⟨h,be,s,ow,h1,h2,ap,rfl,⟨_,q⟩,s2⟩:=H;obtain ⟨b,since,seen,e,hv,hr,hem,hk,hy⟩:=q x y rfl;rcases hm with ⟨hm,_⟩| ⟨b',hm,Y8,rep⟩;rw [hv] at hm;cases hm;obtain ⟨kl,SN,wW⟩:=mM rep.fit hem;have Y2:rg P k eL e∈m.map kC:=rep.perm.mem_iff.1 (aP.2 ⟨e,hem,rfl⟩);obtain ⟨p2,hp2,PI⟩:=aP.1 Y2;rw [wW] at PI;have q1:dF.lit p2.1=kl:=congrArg Prod.fst PI;have q2:(DataW.held p2.2:DataW Value)= .held e.val:=congrArg Prod.snd PI;subst q1;obtain ⟨hkv,tU⟩:=K.inv _ _ SN;have q4:=DataW.held.inj q2;have hx:p2.1=x:=an4 _ _ (hkv.symm.trans hk);subst hx;rw [<-hy,<-q4];exact ⟨tU,hp2⟩
theorem PD {r:Nat} {left mC:List (κ×Value)} {cur:Option (κ×Value)} {h:Hp} (p:left.Perm mC) (s:(mD P k v ob r left cur).sat g h):(mD P k v ob r mC cur).sat g h:=by
 refine ⟨?_,s.2⟩;rcases s.1 with ⟨h1,h2,h3⟩| ⟨b,since,seen,c0,h1,h2,h3,h4,h5,h6⟩;exact .inl ⟨h1,by rw [h2] at p;exact p.symm.eq_nil,h3⟩;exact .inr ⟨b,since,seen,c0,h1,h2,h3,h4,h5,h6.trans (p.map kC)⟩
theorem SL.Vf {r:Nat} {left:List (κ×Value)} {cur:Option (κ×Value)} (H0:SL W g w (mD P k v ob r left cur::l)) (hm:V4 P k w v ob m) (K:xA P k κ) (ty:TypeId):
  (left= []/\(Instr.next (.pointer (some ⟨r,0,none⟩)) false ty).run P w= .ok (.tuple #[.bool false]) w)\/
  ∃ x y mC w',left.Perm ((x,y)::mC)/\dF.ok x/\(x,y)∈m/\(Instr.next (.pointer (some ⟨r,0,none⟩)) false ty).run P w= .ok (.tuple #[.bool true,dF.val x,y]) w'/\SL W g w' (mD P k v ob r mC (some (x,y))::l):=by
 have H:=H0.ahS;obtain ⟨h,be,s,ow,h1,h2,ap,rfl,q,s2⟩:=H;rcases q with ⟨rfl,rfl,a,sn,c,hr⟩| ⟨b,since,seen,c0,rfl,hr,hold,hsc,hsk,M0⟩;exact .inl ⟨rfl,HS ty (ow r _ (Hp.fJ hr)).2.1⟩;obtain ⟨hW,hrw,hrn⟩:=ow r _ (Hp.fJ hr);rcases hm with ⟨hm,_⟩| ⟨b',hm,Y8,rep⟩;cases hm;have:b=b':=by cases hm;rfl
 subst this;have gx:r≠b:=λe=>by rw [e,Y8] at hrw;cases hrw
 obtain ⟨es,clock⟩:=ob;simp only at Y8 rep hold hsk M0;rcases run_next_at (P:=P) w ty r b since c0 seen es clock hrw Y8 hold hsc with ⟨h0,gG⟩| ⟨e,he,w1,hal,gG⟩
 .refine .inl ⟨?_,gG⟩;have:(leftOf es seen).toList= []:=by
   apply aJ;simpa using h0
  rw [this] at M0;have:=M0.length_eq;simp at this;exact aJ this.symm
 .right;obtain ⟨hem,hes⟩:=mem_left he;obtain ⟨kl,hk,wW⟩:=mM rep.fit hem;have yM:rg P k eL e∈left.map kC:=M0.mem_iff.1 (aP.2 ⟨e,he,rfl⟩);have Y2:rg P k eL e∈m.map kC:=rep.perm.mem_iff.1 (aP.2 ⟨e,hem,rfl⟩);obtain ⟨p,hp,Av⟩:=aP.1 yM;rw [wW] at Av;have e1:dF.lit p.1=kl:=congrArg Prod.fst Av;have e2:(DataW.held p.2:DataW Value)= .held e.val:=congrArg Prod.snd Av;subst e1;have e3:p.2=e.val:=DataW.held.inj e2;obtain ⟨hkv,tU⟩:=K.inv _ _ hk;obtain ⟨a,c,hac⟩:=List.append_of_mem hp;have hwl:Le w w1:=by rcases hal with rfl| rfl;exact Le.refl _;exact Le.drew _
  have vR:w1.heap[r]?=some (.mapIter (some b) since seen c0):=hwl.jw hrw;have u:qh w1 r (.mapIter (some b) since (seen.push e.born) clock) (setBlock w1 r (.mapIter (some b) since (seen.push e.born) clock)):=⟨rfl,uO vR⟩;have anG:p=(p.1,e.val):=by rw [<-e3]
  refine ⟨p.1,e.val,a++c,_,?_,tU,?_,by rw [hkv] at gG;exact gG,?_⟩
  .rw [hac,<-anG];exact List.perm_middle
  .obtain ⟨p2,hp2,PI⟩:=aP.1 Y2;rw [wW] at PI;have q1:dF.lit p2.1=dF.lit p.1:=congrArg Prod.fst PI;have q2:(DataW.held p2.2:DataW Value)= .held e.val:=congrArg Prod.snd PI;have q3:=dF.inj _ _ q1;have q4:=DataW.held.inj q2;rw [<-q3,<-q4];exact hp2
  .have hle:=SL.le (l:=[]) (W:=W) (g:=g) ⟨λ_=>none,be,s,(λ_ _ h=>by cases h),trivial⟩ hwl;refine ⟨Hp.join (λq=>if q=r then some (.mapIter (some b) since (seen.push e.born) clock) else h1 q) h2,u.below hle.below hW,hle.aeR.BB hrn u,λq o hq=>?_,_,h2,λq=>?_,rfl,
    ⟨.inr ⟨b,since,seen.push e.born,clock,rfl,if_pos rfl,hold,hsk,hsk,?_⟩,λx y hxy=>?_⟩,s2⟩
   .by_cases eq:q=r
    .subst eq;have:o= .mapIter (some b) since (seen.push e.born) clock:=by unfold Hp.join at hq;simp at hq;exact hq.symm
     subst this;exact ⟨hW,u.here,hrn⟩
    .have SK:(h1.join h2) q=some o:=by unfold Hp.join at hq ⊢;simpa [eq] using hq
     obtain ⟨o1,o2,o3⟩:=ow q o SK;exact ⟨o1,u.jw eq (hwl.jw o2),o3⟩
   .by_cases eq:q=r
    .subst eq;rcases ap q with z| z
     .rw [hr] at z;cases z
     .exact .inr z
    .rcases ap q with z| z
     .left;simp [eq,z]
     .exact .inr z
   .have h3:=(Vb rep.fit.stamped he).map (rg P k eL);rw [bX,wW] at h3;have h4:(left.map kC).Perm (kC p::(a++c).map kC):=by
     rw [hac,eQ,bX,eQ];exact List.perm_middle
    have h5:=(M0.symm.trans h3).symm.trans h4;have h6:kC p=(dF.lit p.1,.held e.val):=by unfold kC;rw [e3]
    rw [h6] at h5;exact List.Perm.cons_inv h5
   .have hxy:=aj hxy;cases hxy;exact ⟨b,since,seen,e,rfl,if_pos rfl,hem,hkv,rfl⟩
end
end Go.Lm
namespace Go.Lm
open Go Go.RowKit Go.Maps Go.ChangeMaps
open Go.WideElems (Fit rd rg pl rd_key rd_val rg_of)
open Go.WideShapes (sorted_perm)
open Go.MapKept
section
variable {κ:Type} [dF κ] {P:Program} {k:TypeId} {W:cQ} {g w:World} {l:List Atom} {m:List (κ×Value)} {b:Nat}
def abA (w w':World):Prop:=∀ (b:Nat) (cs:Array Value) (t:TypeId),Ht w b cs t->Ht w' b cs t
theorem Vd {es:Array MapEntry} {c:Nat} {o:Obj} (h:w.heap[b]?=some (.map es c)):abA w (setBlock w b o):=λk cs t hk=>by
 have gx:b≠k:=λe=>by
  subst e;unfold Ht at hk;rw [h] at hk;cases hk
 unfold Ht at*;simp only [setBlock];rw [ke gx];exact hk
def Gm (P:Program) (k:TypeId) (b:Nat) (m:List (κ×Value)) (x:κ) (st:Nat):Atom:=
 ⟨λ_ h=>∃ es clock,h b=some (.map es clock)/\lQ P k es clock m/\∃ e∈es.toList,e.key=dF.val x/\e.born=st,λ_ s=>s⟩
theorem DZ {t e:TypeId} {es:Array MapEntry} {clock:Nat} {key z:Value} {kl:Lit} (K:Keyed P k) (ht:P.underlying t=some (.map k e)) (hz:(zeroValue e).run P w= .ok z w) (hb:w.heap[b]?=some (.map es clock)) (F:Fit P k eL es clock) (CW:keyOf P k key=some kl):
  ∃ (val:Value) (st:Nat) (Om:Array MapEntry) (sW:Nat),(Instr.mapEntry t (.map (some b)) key).run P w= .ok (.tuple #[val,goInt st]) (setBlock w b (.map Om sW))/\(Instr.mapUpdate t (.map (some b)) key val).run P w= .ok () (setBlock w b (.map Om sW))/\(∃ e∈Om.toList,e.key=key/\e.born=st)/\((val=z/\∀ e∈es.toList,e.key≠key)\/∃ e∈es.toList,e.key=key/\e.val=val):=by
 rcases K.find w CW es.toList F.keys with ⟨h1,h2⟩| ⟨j,e0,h1,h2,h3⟩
 .refine ⟨z,clock,es.push ⟨key,z,clock⟩,clock+1,?_,?_,⟨⟨key,z,clock⟩,by simp,rfl,rfl⟩,.inl ⟨rfl,h2⟩⟩
  .simp [Instr.mapEntry,run_underlying ht,MapKept.run_getObj_map hb,K.check w false CW,h1,hz,MapKept.run_setObj_map _ hb,Result.andThen,setBlock]
  .simp [Instr.mapUpdate,run_underlying ht,MapKept.run_getObj_map hb,K.check w false CW,h1,MapKept.run_setObj_map _ hb,Result.andThen,setBlock]
 .have hj:es[j]?=some e0:=by simpa using h2
  have hm:(es.modify j λe=> {e with key:=key})=es.modify j λe=> {e with key:=key,val:=e0.val}:=by
   apply Array.ext_getElem?;intro i;rw [iL,iL];by_cases e:j=i;subst e;rw [if_pos rfl,if_pos rfl,hj];rfl;rw [if_neg e,if_neg e]
  refine ⟨e0.val,e0.born,es.modify j λe=> {e with key:=key,val:=e0.val},clock,?_,?_,⟨{e0 with key:=key,val:=e0.val},?_,rfl,rfl⟩,.inr ⟨e0,fc h2,h3,rfl⟩⟩;simp [Instr.mapEntry,run_underlying ht,MapKept.run_getObj_map hb,K.check w false CW,h1,hj,h3,K.stays w CW,MapKept.run_setObj_map _ hb,Result.andThen,setBlock,hm];simp [Instr.mapUpdate,run_underlying ht,MapKept.run_getObj_map hb,K.check w false CW,h1,hj,h3,K.stays w CW,MapKept.run_setObj_map _ hb,Result.andThen,setBlock]
  .refine fc (i:=j) ?_;rw [eS,iL,if_pos rfl,hj];rfl
theorem lQ.get_none {es:Array MapEntry} {clock:Nat} (r:lQ P k es clock m) (K:xA P k κ) {x:κ} (h:∀ e∈es.toList,e.key≠dF.val x):iC m x=none:=nS.2 λp hp e=>by
 have h1:kC p∈es.toList.map (rg P k eL):=r.perm.mem_iff.2 (aP.2 ⟨p,hp,rfl⟩);obtain ⟨q,hq,hqe⟩:=aP.1 h1;obtain ⟨kl,hk,wW⟩:=mM r.fit hq;rw [wW] at hqe;have:kl=dF.lit p.1:=congrArg Prod.fst hqe;subst this;rw [e] at hk;exact h q hq (K.inv _ _ hk).1
theorem lQ.get_some {es:Array MapEntry} {clock:Nat} (r:lQ P k es clock m) (K:xA P k κ) {x:κ} (hx:dF.ok x) {e0:MapEntry} (he:e0∈es.toList) (hke:e0.key=dF.val x):iC m x=some e0.val:=by
 refine ln (r.nodup K.keyed) ?_;obtain ⟨kl,hk,wW⟩:=mM r.fit he;have h1:rg P k eL e0∈m.map kC:=r.perm.mem_iff.1 (aP.2 ⟨e0,he,rfl⟩);obtain ⟨p,hp,Av⟩:=aP.1 h1;rw [wW] at Av;have h2:dF.lit p.1=kl:=congrArg Prod.fst Av;have h3:(DataW.held p.2:DataW Value)= .held e0.val:=congrArg Prod.snd Av;rw [hke,K.of x hx] at hk;have h4:p.1=x:=dF.inj _ _ (h2.trans (aj hk).symm);have h5:p.2=e0.val:=DataW.held.inj h3;rw [<-h4,<-h5];exact hp
theorem SL.U8 (H:SL W g w (mapA P k b m::l)) (K:xA P k κ) {t e:TypeId} (ht:P.underlying t=some (.map k e)) {z:Value} (hz:(zeroValue e).run P w= .ok z w) (hlen:m.length< maxLen) (x:κ) (hx:dF.ok x):
  ∃ (val:Value) (st:Nat) (w':World),(Instr.mapEntry t (.map (some b)) (dF.val x)).run P w= .ok (.tuple #[val,goInt st]) w'/\SL W g w' (Gm P k b (qL m x val) x st::l)/\(val=z\/∃ p∈m,p.2=val)/\val=(iC m x).getD z:=by
 obtain ⟨es,clock,r,H1⟩:=H.U7;have hb:=H1.has 0;obtain ⟨val,st,Om,sW,h1,h2,⟨e',he,hk,hs⟩,hval⟩:=DZ K.keyed ht hz hb r.fit (K.of x hx);obtain ⟨w',h3,H3⟩:=H.Pu K ht hlen x hx val;rw [h2] at h3;cases h3;refine ⟨val,st,_,h1,?_,?_⟩;rotate_left
 .rcases hval with ⟨h,kB⟩| ⟨e0,he0,hke,h⟩
  .exact ⟨.inl h,by rw [r.get_none K kB,h];rfl⟩
  .refine ⟨?_,by rw [r.get_some K hx he0 hke,h];rfl⟩;obtain ⟨kl,SN,wW⟩:=mM r.fit he0;have yM:rg P k eL e0∈m.map kC:=r.perm.mem_iff.1 (aP.2 ⟨e0,he0,rfl⟩);obtain ⟨p,hp,Av⟩:=aP.1 yM;rw [wW] at Av;have q2:(DataW.held p.2:DataW Value)= .held e0.val:=congrArg Prod.snd Av;exact .inr ⟨p,hp,(DataW.held.inj q2).trans h⟩
 obtain ⟨h,be,s,ow,g1,g2,ap,rfl,⟨es2,clock2,hb2,r2⟩,s2⟩:=H3;have hb3:=(ow b _ (Hp.fJ hb2)).2.1;have hb4:(setBlock w b (.map Om sW)).heap[b]?=some (.map Om sW):=by simp [setBlock,uO hb]
 rw [hb4] at hb3;cases hb3;exact ⟨_,be,s,ow,g1,g2,ap,rfl,⟨Om,sW,hb2,r2,e',he,hk,hs⟩,s2⟩
theorem SL.entryStore {x:κ} {st:Nat} {val:Value} (H:SL W g w (Gm P k b (qL m x val) x st::l)) (K:xA P k κ) (hx:dF.ok x) (t:TypeId) (v:Value):
  ∃ w',(Instr.entryStore t (.map (some b)) (goInt st) v).run P w= .ok () w'/\SL W g w' (mapA P k b (qL m x v)::l)/\abA w w':=by
 obtain ⟨h,be,s,ow,g1,g2,ap,rfl,⟨es,clock,hb,r,e,he,hke,hse⟩,s2⟩:=H;have Y8:=(ow b _ (Hp.fJ hb)).2.1;have CU:=(stamped_iff es clock).1 r.fit.stamped;obtain ⟨j,hj⟩:=List.getElem?_of_mem he;have Oh:j< es.size:=by simpa using (au.1 hj).1
 have hje:es[j]?=some e:=by simpa using hj
 have hf:es.findIdx? (λe=>(e.born:Int)==(st:Int))=some j:=by
  rw [Array.findIdx?_eq_some_iff_getElem];have e1:es[j]=e:=by rw [cK Oh] at hje;exact aj hje
  refine ⟨Oh,by rw [e1];simp [hse],λi hi=>?_⟩;have pB:i< es.size:=by omega
  intro hc;have hb1:es[i].born=st:=Int.ofNat_inj.1 (eq_of_beq hc);have h1:=CU.2.1;have h2:(es.toList.map (·.born))[i]?=some st:=by simp [pB,hb1]
  have h3:(es.toList.map (·.born))[j]?=some st:=by simp [Oh,e1,hse]
  have:=(List.getElem?_inj (by simpa using pB) h1).1 (h2.trans h3.symm);omega
 let Om:=es.modify j λe=> {e with val:=v};have gG:(Instr.entryStore t (.map (some b)) (goInt st) v).run P w= .ok () (setBlock w b (.map Om clock)):=by
  simp [Instr.entryStore,MapKept.run_getObj_map Y8,goInt,asInt,asIntOf,hf,MapKept.run_setObj_map _ Y8,Result.andThen,setBlock,Om]
 refine ⟨_,gG,?_,Vd Y8⟩;have Y0:Om.toList=es.toList.set j {e with val:=v}:=by
  apply List.ext_getElem?;intro i;rw [eS,iL,List.getElem?_set];by_cases q:j=i;subst q;rw [if_pos rfl,if_pos rfl,hje];simp [Oh];rw [if_neg q,if_neg q,eS]
 obtain ⟨kl,hk,wW⟩:=mM r.fit he;have SN:kl=dF.lit x:=by rw [hke,K.of x hx] at hk;exact (aj hk).symm
 have F':Fit P k eL Om clock:=by
  refine ⟨by simpa [Om] using r.fit.size,stamped_modify r.fit.stamped _ _ (λ_ _=>rfl) (λ_ _ _=>rfl),λy hy=>?_⟩;rw [Y0] at hy;rcases List.mem_or_eq_of_mem_set hy with hy| rfl;exact r.fit.reads y hy
  .exact ⟨(kl,.held v),by
    exact Go.WideElems.rd_mk (R:=eL) (born:=e.born) hk (show eL v=some (.held v,[]) from rfl)⟩
 have H1:SL W g w (obj b (.map es clock)::l):=⟨_,be,s,ow,g1,g2,ap,rfl,hb,s2⟩;refine (H1.zA ⟨rfl,uO Y8⟩).ahQ ⟨F',?_⟩
 -- the readings:only the one entry's element turns
 have anz:rg P k eL {e with val:=v}=(dF.lit x,.held v):=by
  obtain ⟨kl2,qP,anx⟩:=mM F' (x:= {e with val:=v}) (by rw [Y0];exact dR.2 ⟨j,by simpa using Oh,by simp⟩);rw [anx];have:kl2=kl:=by
   have h1:keyOf P k e.key=some kl2:=qP;rw [h1] at hk;exact aj hk
  rw [this,SN]
 have hap:=Maps.fit_apart K.keyed r.fit;have ah5:∀ (L:List MapEntry) (j:Nat),L[j]?=some e->(L.set j {e with val:=v}).Perm ({e with val:=v}::L.eraseIdx j):=by
  intro L
  induction L with
  | nil=>intro j h;simp at h
  | cons y L ih=>
   intro j h;cases j with
   | zero=>simp
   | succ j=>simp only [List.set_cons_succ,List.eraseIdx_cons_succ];exact (List.Perm.cons y (ih j (by simpa using h))).trans (List.Perm.swap _ _ _)
 have YT:∀ (L:List MapEntry) (j:Nat),L[j]?=some e->L.Perm (e::L.eraseIdx j):=by
  intro L
  induction L with
  | nil=>intro j h;simp at h
  | cons y L ih=>
   intro j h;cases j with
   | zero=>simp at h;subst h;simp
   | succ j=>simp only [List.eraseIdx_cons_succ];exact (List.Perm.cons y (ih j (by simpa using h))).trans (List.Perm.swap _ _ _)
 have p1:=(ah5 es.toList j hj).map (rg P k eL);have p2:=(YT es.toList j hj).map (rg P k eL);rw [bX,anz] at p1;rw [bX,wW,SN] at p2;have p3:((dF.lit x,DataW.held e.val)::(es.toList.eraseIdx j).map (rg P k eL)).Perm (kC (x,val)::(mF m x).map kC):=p2.symm.trans r.perm
 -- the entry of key x is the one
 have uk:(dF.lit x,(DataW.held e.val:DataW Value))∈kC (x,val)::(mF m x).map kC:=p3.mem_iff.1 (by simp);have hval:kC (x,val)=(dF.lit x,(DataW.held e.val:DataW Value)):=by
  rcases bm.1 uk with h| h;exact h.symm
  .obtain ⟨q,hq,hqe⟩:=aP.1 h;have h1:dF.lit q.1=dF.lit x:=congrArg Prod.fst hqe;have h2:=dF.inj _ _ h1;unfold mF at hq;have:=(fO.1 hq).2;simp [h2] at this
 rw [hval] at p3;have p4:=List.Perm.cons_inv p3;rw [Y0];refine p1.trans ?_;unfold qL;rw [bX];exact List.Perm.cons _ p4
end
end Go.Lm
namespace Go.Lm
open Go Go.RowKit

section
variable {W:cQ} {g w:World}
end

structure UTy where
 U:TypeId
 N:TypeId
 kI:TypeId
 kS:TypeId
structure rH where
 oP:Nat
 kind:Int
 mode:Int
 uid:Int
 gid:Int
 vd:Value
 data:List UInt8
 target:ByteArray
 vx:Value
 amZ:List Qv
 opq:Bool
 vi:Value
 aqL:List (ByteArray×Int)
 up:Int
 ae5:Int
abbrev rH.cells (n:rH):Array Value:= #[.slice none 0 0,.int .i64 0,.int .i64 n.kind,.int .i64 n.mode,.int .i64 n.uid,.int .i64 n.gid,n.vd,.string n.target,n.vx,.bool n.opq,n.vi,.int .i64 n.up,.int .i64 n.ae5]
section
variable {κ:Type} [dF κ] {α β:Type}
end
section
variable {P:Program} {T:UTy} {W:cQ} {g w w':World} {l:List Atom}
variable {u mb:Nat} {q1 q2 nx:Int} {L:List (Int×rH)}
end
end Go.Lm
namespace Go.Lm
open Go Go.RowKit

section
variable {P:Program} {ops:Array Oper} {rest:List Oper} {o:Oper} {n:Nat} {s:AL} {Q:Exit->Act->World->Prop} {w:World} {e:Bool} {Φ:World->Prop}
theorem Act.ext' {a b:Act} (h1:∀ t:Nat,a.tmps[t]?=b.tmps[t]?) (h2:a.defers=b.defers):a=b:=by
 cases a;cases b;simp only at h1 h2;subst h2;congr 1;exact Array.ext_getElem? h1
def slotsOf (ops:Array Oper) (o:Oper):List Nat:=(o.op.operands.toList.filterMap λx=>match x with| .tmp t=>some t| _=>none)++(match o.guard with| some (g,_)=>(match (ops[g]?).bind (·.dst) with| some d=>[d]| none=>[])| none=>[])
end
end Go.Lm
namespace Go.Lm
open Go Go.RowKit
section
variable {P:Program} {ops:Array Oper} {n:Nat} {s:AL} {Q Q'':Exit->Act->World->Prop} {w:World} {c:Code}
end
def ny:Value->Nat->Value
 | .pointer (some a),o=>.pointer (some (a.add o))
 | v,_=>v
def tn (g:World) (k:Nat) (v:Value) (i:Int) (cs:List Value):Prop:=∀ w,bx g w->∃ a:Addr,jJ k v i= .pointer (some a)/\∀ (j:Nat) (c:Value),cs[j]?=some c->w.cell? (a.add j)=some c
section
variable {P:Program} {g w:World} {v:Value} {i:Int}
theorem adS {α:Type} [aO α] {xs:List α} (h:Is g v xs) (h0:0<=i) (h1:i< xs.length):∃ cs,tn g (aO.size α) v i cs/\aO.rel g cs (xs[i.toNat]'(by omega)):=by
 rcases dv.1 h with ⟨rfl,rfl⟩| ⟨a,cap,rfl,_,_,h3⟩;simp at h1;omega
 .obtain ⟨cs,hc,hr⟩:=h3 i.toNat _ (ak (by omega));exact ⟨cs,λw hw=>⟨a.add (i.toNat*aO.size α),rfl,λj c hj=>by rw [Go.Deep.add_add];exact hw _ _ (hc j c hj)⟩,hr⟩
theorem r7 {k off:Nat} {cs:List Value} {t:TypeId} {d:TypeDesc} {c:Value} (h:tn g k v i cs) (m:bx g w) (hu:P.underlying t=some d) (hd:d.isRow=false) (hc:cs[off]?=some c):
  (Instr.loadAt t (ny (jJ k v i) off)).run P w= .ok c w:=by
 obtain ⟨a,ha,wY⟩:=h w m;have Jr:(isAgg t).run P w= .ok false w:=by
  unfold isAgg;rw [Sem.run_bind,run_underlying hu w];cases d<;>simp_all
 have h2:=wY off c hc;simp [ha,ny,Instr.loadAt,Instr.sureAddr,loadVar,Jr,run_load,h2]
theorem D5 {k off len:Nat} {cs:List Value} {t:TypeId} {d:TypeDesc} (h:tn g k v i cs) (m:bx g w) (hu:P.underlying t=some d) (hd:d.isRow=true) (hs:(P.info? t).map (·.size)=some len) (hl:off+len<=cs.length):
  (Instr.loadAt t (ny (jJ k v i) off)).run P w= .ok (.agg ((cs.drop off).take len).toArray) w:=by
 obtain ⟨a,ha,hc⟩:=h w m;cases hq:P.info? t with
 | none=>simp [hq] at hs
 | some ie=>
  have Og:((cs.drop off).take len).length=len:=by simp;omega
  have kr:ie.size=len:=by simpa [hq] using hs
  have Jr:(isAgg t).run P w= .ok true w:=by
   unfold isAgg;rw [Sem.run_bind,run_underlying hu w];cases d<;>simp_all
  have hl:=run_loadCells_list (P:=P) w (a.add off) ((cs.drop off).take len) (λj c hj=>by
   rw [Go.Deep.add_add];refine hc _ c ?_;rw [ez] at hj;split at hj;rw [List.getElem?_drop] at hj;exact hj
   .cases hj)
  rw [Og] at hl;simp [ha,ny,Instr.loadAt,Instr.sureAddr,loadVar,Jr,sizeOf,typeInfo,hq,kr,hl]
def fD (l:List UInt8):ByteArray:=⟨l.toArray⟩
theorem BR {src dst e:TypeId} {l:List UInt8} (h:Is w v l) (hs:P.underlying src=some (.slice e)) (he:P.underlying e=some (.int .u8)) (hd:P.underlying dst=some .string):(convert src dst v).run P w= .ok (.string (fD l)) w:=by
 rcases dv.1 h with ⟨rfl,rfl⟩| ⟨a,cap,rfl,_,_,h3⟩;exact run_convert_bytes_nil w src e hs he 0 0 dst hd
 .exact run_convert_bytes_back w src dst e a cap l hs he hd λj hj=>by
   obtain ⟨cs,hc,hr⟩:=h3 j _ (ak hj);have hr':cs= [.int .u8 (l[j].toNat:Int)]:=hr;have:=hc 0 (.int .u8 (l[j].toNat:Int)) (by rw [hr'];rfl);simpa [aO.size] using this
end
end Go.Lm
namespace Go.Lm
open Go Go.RowKit
class zn (ρ:Type) [jO ρ]:Prop where
 one:∀ {g:World} {cs:List Value} {x:ρ},jO.rrel g cs x->∀ u∈cs,u.oneCell'=true
instance:zn PUnit:=⟨λh u hu=>by rw [show _=_ from h] at hu;cases hu⟩
instance {α ρ:Type} [aO α] [jO ρ] [iF α] [zn ρ]:zn (α×ρ):=⟨λh u hu=>by
 obtain ⟨c1,c2,rfl,h1,h2⟩:=h;rcases aY.1 hu with hu| hu;exact iF.one h1 u hu
 .exact zn.one h2 u hu⟩
instance {ρ:Type} [jO ρ] [zn ρ]:iF (St ρ):=⟨λh u hu=>zn.one h u hu⟩
theorem ahH {α:Type} [aO α] {g:World} {v:Value} {l:List α} (h:Is g v l):v.oneCell'=true:=by
 rcases dv.1 h with ⟨rfl,_⟩| ⟨a,c,rfl,_⟩<;>rfl
section
variable {P:Program} {W:cQ} {g w:World} {l:List Atom}
theorem Yf {α:Type} [aO α] {e:TypeId} {v:Value} {xs:List α} {i:Int} (H:SL W g w (BK e v xs::l)) (h0:0<=i) (h1:i< xs.length):∃ cs,tn w (aO.size α) v i cs/\aO.rel g cs (xs[i.toNat]'(by omega)):=by
 obtain ⟨cs,r,H1⟩:=H.pj;have rO:=H1.row;rcases rO.2 with ⟨rfl,h⟩| ⟨k,cap,cur,rfl,_⟩;omega
 .obtain ⟨c,hr,hc⟩:=r.get i.toNat _ (ak (by omega));refine ⟨c,λw2 m=>⟨(⟨k,0,none⟩:Addr).add (i.toNat*aO.size α),rfl,λj u hj=>?_⟩,hr⟩;rw [Go.Deep.add_add];exact m _ _ (rO.cells (g:=k) rfl _ u (hc j u hj))
theorem sR {size:Nat} {c:Value}:∀ (cs:List (List Value)) (i off:Nat),(∀ x∈cs,x.length=size)->off< size->∀ (hi:i< cs.length),(cs.set i ((cs[i]).set off c)).flatten=cs.flatten.set (i*size+off) c
 | [],i,off,_,_,hi=>by simp at hi
 | x::cs,0,off,h,ho,_=>by
  have hx:=h x (by simp);simp only [List.set_cons_zero,List.getElem_cons_zero,bI,Nat.zero_mul,bW];rw [List.set_append_left _ _ (by omega)]
 | x::cs,i+1,off,h,ho,hi=>by
  have hx:=h x (by simp);simp only [List.set_cons_succ,List.getElem_cons_succ,bI];rw [sR cs i off (λy hy=>h y (by simp [hy])) ho (by simpa using hi)];rw [List.set_append_right _ _ (by rw [hx,fg];omega)];congr 2;rw [hx,fg];omega
theorem eC.set {α:Type} [aO α] {x':α}:∀ {cs:List (List Value)} {xs:List α} (i:Nat) (c':List Value),eC g cs xs->aO.rel g c' x'->eC g (cs.set i c') (xs.set i x')
 | [],[],i,c',_,_=>by simp [eC]
 | c::cs,x::xs,0,c',h,hr=>⟨hr,h.2⟩
 | c::cs,x::xs,i+1,c',h,hr=>⟨h.1,eC.set i c' h.2 hr⟩
theorem eC.at {α:Type} [aO α]:∀ {cs:List (List Value)} {xs:List α} (i:Nat) (hi:i< xs.length) (hc:i< cs.length),eC g cs xs->aO.rel g cs[i] xs[i]
 | c::cs,x::xs,0,_,_,h=>h.1
 | c::cs,x::xs,i+1,hi,hc,h=>eC.at i (by simpa using hi) (by simpa using hc) h.2
theorem eC.lens {α:Type} [aO α]:∀ {cs:List (List Value)} {xs:List α},eC g cs xs->∀ c∈cs,c.length=aO.size α
 | [],[],_,c,hc=>by cases hc
 | c::cs,x::xs,h,y,hy=>by
  rcases bm.1 hy with rfl| hy;exact aO.len h.1;exact eC.lens h.2 y hy
theorem SL.akE {α:Type} [aO α] {e t:TypeId} {v c:Value} {xs:List α} {i:Int} {off:Nat} {x':α} (H:SL W g w (BK e v xs::l)) (h0:0<=i) (h1:i< xs.length) (PK:off< aO.size α) (um:c.oneCell'=true) (Jp:c.cells= #[c]) (CU:(P.info? t).map (·.size)=some 1)
  (hx:∀ cs,aO.rel g cs (xs[i.toNat]'(by omega))->aO.rel g (cs.set off c) x'):
  ∃ w',(Instr.storeAt t (ny (jJ (aO.size α) v i) off) c).run P w= .ok () w'/\SL W g w' (BK e v (xs.set i.toNat x')::l):=by
 obtain ⟨cs,r,H1⟩:=H.pj;have hlen:=eC.length r;rcases H1.ofRow with ⟨rfl,hn,_,_⟩| ⟨k,cap,cur,rfl,q1,q2,q3,q4,H2⟩;omega;have hi:i.toNat< xs.length:=by omega
 have Y4:i.toNat< cs.length:=by omega
 have Y6:i.toNat*aO.size α+off< xs.length*aO.size α:=by
  have:(i.toNat+1)*aO.size α<=xs.length*aO.size α:=gR _ hi;rw [fg] at this;omega
 have Jq:xs.length*aO.size α<=cap*aO.size α:=gR _ q1;have gG:=kg (P:=P) (t:=t) (off:=i.toNat*aO.size α+off) (v:=c) (H2.oP 0) (by rw [Jp];exact CU) (by rw [Jp];simp [um]) (by rw [Jp];simp;omega);refine ⟨w.setRow k (cur.toList.take (i.toNat*aO.size α+off)++c.cells.toList++cur.toList.drop (i.toNat*aO.size α+off+c.cells.size)).toArray,?_,?_⟩
 .have hp:ny (jJ (aO.size α) (.slice (some ⟨k,0,none⟩) xs.length cap) i) off=ptr k (i.toNat*aO.size α+off):=by
   show Value.pointer (some (((⟨k,0,none⟩:Addr).add (i.toNat*aO.size α)).add off))=_;rw [Go.Deep.add_add,Addr.add_mid,bW]
  rw [hp];exact gG
 .have e1:(cur.toList.take (i.toNat*aO.size α+off)++c.cells.toList++cur.toList.drop (i.toNat*aO.size α+off+c.cells.size))=cur.toList.set (i.toNat*aO.size α+off) c:=by
   rw [Jp];rw [List.set_eq_take_append_cons_drop,if_pos (by simp;omega)];simp
  have u:Wg w k (cur.toList.set (i.toNat*aO.size α+off) c).toArray (w.setRow k (cur.toList.take (i.toNat*aO.size α+off)++c.cells.toList++cur.toList.drop (i.toNat*aO.size α+off+c.cells.size)).toArray):=⟨by rw [e1],(H2.oP 0).lt⟩;have H3:=H2.upd 0 u;have H4:=SL.wc (size:=aO.size α) (cap:=cap) xs.length H3 q1 q2 (by simp;omega);have e2:((cur.toList.set (i.toNat*aO.size α+off) c).toArray.toList.take (xs.length*aO.size α))=(cs.set i.toNat ((cs[i.toNat]).set off c)).flatten:=by
   rw [sR (size:=aO.size α) cs i.toNat off (λx hx=>eC.lens r x hx) PK Y4,<-q4];simp only [List.take_set]
  rw [e2] at H4;have hlx:(xs.set i.toNat x').length=xs.length:=by simp
  refine SL.XE (cs:=cs.set i.toNat ((cs[i.toNat]).set off c)) (r.set i.toNat _ (hx _ (r.at i.toNat hi Y4))) ?_;rw [hlx];exact H4
end
end Go.Lm
namespace Go.Lm
open Go Go.RowKit
section
variable {P:Program} {W:cQ} {g w:World} {l:List Atom}
theorem al8 {ρ:Operand->Value} {o:Oper} {x y:Operand} {t u:TypeId} {a b:Int} {k:IntKind} (ho:o.op= .call {callee:=.builtin .min,args:= #[x,y],argTypes:= #[t,u]}) (hx:ρ x= .int k a) (hy:ρ y= .int k b):(execOp ρ o).run P w= .ok (.value (.int k (min a b))) w:=by
 simp [execOp,ho,resolve,invoke,builtin,hx,hy,Builtin.min_,Builtin.min2]
 try (split<;>omega)
theorem al9 {ρ:Operand->Value} {o:Oper} {x y:Operand} {t u:TypeId} {a b:Int} {k:IntKind} (ho:o.op= .call {callee:=.builtin .max,args:= #[x,y],argTypes:= #[t,u]}) (hx:ρ x= .int k a) (hy:ρ y= .int k b):(execOp ρ o).run P w= .ok (.value (.int k (max a b))) w:=by
 simp [execOp,ho,resolve,invoke,builtin,hx,hy,Builtin.max_,Builtin.max2]
 try (split<;>omega)
def bV (xs:List UInt8):List Value:=xs.map λb=>.int .u8 b.toNat
theorem ahC:∀ {cs:List (List Value)} {xs:List UInt8},eC g cs xs->cs.flatten=bV xs
 | [],[],_=>rfl
 | c::cs,x::xs,h=>by
  have h1:c= [.int .u8 x.toNat]:=h.1;rw [bI,ahC h.2,h1];rfl
theorem RU:∀ xs:List UInt8,eC g (xs.map λb=>[Value.int .u8 b.toNat]) xs
 | []=>trivial
 | _::xs=>⟨rfl,RU xs⟩
theorem adM (xs:List UInt8):(xs.map λb=>[Value.int .u8 b.toNat]).flatten=bV xs:=by
 induction xs with
 | nil=>rfl
 | cons x xs ih=>rw [bX,bI,ih];rfl
theorem SL.slB {e:TypeId} {v:Value} {xs:List UInt8} (H:SL W g w (uh e 1 v xs.length (bV xs)::l)):SL W g w (BK e v xs::l):=by
 refine SL.XE (cs:=xs.map λb=>[Value.int .u8 b.toNat]) (RU xs) ?_;rw [adM];exact H
theorem SL.ahy {e:TypeId} {v:Value} {xs:List UInt8} (H:SL W g w (BK e v xs::l)):SL W g w (uh e 1 v xs.length (bV xs)::l):=by
 obtain ⟨cs,r,H1⟩:=H.pj;rw [ahC r] at H1;exact H1
def lW (xs:List UInt8) (off:Nat) (ys:List UInt8):List UInt8:=xs.take off++ys.take (xs.length - off)++xs.drop (off+min ys.length (xs.length - off))
theorem JA (xs:List UInt8) (off:Nat) (ys:List UInt8) (h:off<=xs.length):(lW xs off ys).length=xs.length:=by
 unfold lW;simp;omega
theorem OE (v:Value) (n:Nat) (k cap:Nat) (h:v= .slice (some ⟨k,0,none⟩) n cap):jg 1 v 0 n=v:=by
 subst h;unfold jg;simp only [Int.toNat_zero,Nat.zero_mul,Nat.sub_zero,aU];split;rfl;simp [Addr.add]
theorem SL.alN {e dT sT ty:TypeId} {k cap:Nat} {xs ys:List UInt8} {y:Value} {off:Int} (H:SL W g w (BK e (.slice (some ⟨k,0,none⟩) xs.length cap) xs::l)) (hy:Rd g w y ys) (h0:0<=off) (h1:off<=xs.length) (ht:P.underlying dT=some (.slice e)) (hs:(P.info? e).map (·.size)=some 1):
  ∃ w',(Builtin.copy_ #[dT,sT] ty #[jg 1 (.slice (some ⟨k,0,none⟩) xs.length cap) off xs.length,y]).run P w= .ok (.int .i64 (min ys.length (xs.length - off.toNat):Nat)) w'/\SL W g w' (BK e (.slice (some ⟨k,0,none⟩) xs.length cap) (lW xs off.toNat ys)::l):=by
 have H1:=H.ahy;rcases H1.ofRow with ⟨h,_⟩| ⟨k',Zy,cur,hv,q1,q2,q3,q4,H2⟩;cases h;cases hv;rw [Nat.mul_one] at q4 q3;have hlc:cur.toList.length=cap:=by simpa using q3
 have hbx:(bV xs).length=xs.length:=by simp [bV]
 -- the destination
 have aoe:∃ o,jg 1 (.slice (some ⟨k,0,none⟩) xs.length cap) off xs.length= .slice (some ⟨k,o,none⟩) (xs.length - off.toNat) (cap - off.toNat)/\(o=off.toNat\/(o=0/\xs.length - off.toNat=0)):=by
  unfold jg;simp only [js,aU,Nat.mul_one];by_cases hc:cap=off.toNat
  .exact ⟨0,by rw [if_pos hc],.inr ⟨rfl,by omega⟩⟩
  .refine ⟨off.toNat,by rw [if_neg hc,Addr.add_mid,bW],.inl rfl⟩
 obtain ⟨o,hd,ho⟩:=aoe;rw [hd];rcases hy with ⟨rfl,rfl⟩| ⟨a,c,rfl,_,_,ds,Vo,o7⟩
 .have hr:=run_copy_nil (P:=P) w dT sT ty e ⟨k,o,none⟩ (xs.length - off.toNat) (cap - off.toNat) ht (by cases hq:P.info? e<;>simp_all);refine ⟨w,by rw [hr];simp [goInt],?_⟩;have:lW xs off.toNat []=xs:=by unfold lW;simp
  rw [this];exact H
 .have hfl:=ahC Vo;obtain ⟨m,hm⟩:∃ m,m=min ys.length (xs.length - off.toNat):=⟨_,rfl⟩;have hmN:Nat.min ys.length (xs.length - off.toNat)=m:=hm.symm;have hy1:((bV ys).take (xs.length - off.toNat)).length=m:=by
   simp [bV];omega
  have hr:=run_copy_row (P:=P) w dT sT ty e k o (xs.length - off.toNat) (cap - off.toNat) a ys.length c cur e ((bV ys).take (xs.length - off.toNat)) ht hs (H2.oP 0) (by rw [hmN];exact hy1)
   (λj u hj=>by
    rw [ez] at hj;split at hj;exact o7 j u (by rw [hfl];exact hj)
    .cases hj)
   (by rw [hy1,<-dq,hlc];rcases ho with h| h<;>omega)
   (λu hu=>by
    have hu':=List.mem_of_mem_take hu;unfold bV at hu';obtain ⟨b,_,rfl⟩:=aP.1 hu';rfl)
  rw [hy1] at hr;rw [<-hm];refine ⟨_,hr,?_⟩;have hu:Wg w k (cur.toList.take o++(bV ys).take (xs.length - off.toNat)++cur.toList.drop (o+m)).toArray (w.setRow k (cur.toList.take o++(bV ys).take (xs.length - off.toNat)++cur.toList.drop (o+m)).toArray):=⟨rfl,(H2.oP 0).lt⟩;have H3:=H2.upd 0 hu;have hlen:(lW xs off.toNat ys).length=xs.length:=JA _ _ _ (by omega);have H4:=SL.wc (size:=1) (cap:=cap) xs.length H3 q1 q2 (by
   simp only [List.size_toArray,af,aN,hlc,Nat.mul_one,hy1];rw [aA,hlc];rcases ho with h| h<;>omega)
  have e1:(cur.toList.take o++(bV ys).take (xs.length - off.toNat)++cur.toList.drop (o+m)).toArray.toList.take (xs.length*1)=bV (lW xs off.toNat ys):=by
   show (cur.toList.take o++(bV ys).take (xs.length - off.toNat)++cur.toList.drop (o+m)).take (xs.length*1)=_;rw [Nat.mul_one];unfold lW;rw [<-hm];generalize hT:(bV ys).take (xs.length - off.toNat)=T at hy1;have hR:bV (xs.take off.toNat++ys.take (xs.length - off.toNat)++xs.drop (off.toNat+m))=(cur.toList.take xs.length).take off.toNat++T++(cur.toList.take xs.length).drop (off.toNat+m):=by
    rw [q4,<-hT];simp only [bV,eQ,List.map_take,List.map_drop]
   rw [hR];have ho':cur.toList.take o++T++cur.toList.drop (o+m)=cur.toList.take off.toNat++T++cur.toList.drop (off.toNat+m):=by
    rcases ho with h| ⟨h,h2⟩;rw [h]
    .have hm0:m=0:=by omega
     have hT0:T= []:=aJ (by omega);rw [hT0,h,hm0];simp
   rw [ho'];rw [List.take_append,List.take_append,eF,af,aA,hy1,hlc];have m1:min xs.length off.toNat=off.toNat:=by omega
   have m2:min off.toNat cap=off.toNat:=by omega
   rw [m1,m2];have m3:T.take (xs.length - off.toNat)=T:=aT (by omega);rw [m3];rw [eF,jk];have m4:min off.toNat xs.length=off.toNat:=by omega
   rw [m4]
   first| done| (congr 2;done)| (congr 2;omega)
  rw [e1] at H4;refine SL.slB ?_;rw [hlen];exact H4
end

inductive Ty
 | int (k:IntKind)| u8| str| bool| unit| Vr
 | pair (a b:Ty)
 | sl (e:Ty)
def IntKind.beq:IntKind->IntKind->Bool
 | .i8,.i8| .i16,.i16| .i32,.i32| .i64,.i64| .u8,.u8| .u16,.u16| .u32,.u32| .u64,.u64=>true
 | _,_=>false
theorem IntKind.eq_of_beq:∀ {a b:IntKind},IntKind.beq a b=true->a=b:=by
 intro a b;cases a<;>cases b<;>intro h<;>first| rfl| cases h
def Ty.beq:Ty->Ty->Bool
 | .int k,.int k'=>IntKind.beq k k'
 | .u8,.u8| .str,.str| .bool,.bool| .unit,.unit| .Vr,.Vr=>true
 | .pair a b,.pair c d=>a.beq c&& b.beq d
 | .sl a,.sl b=>a.beq b
 | _,_=>false
theorem Ty.eq_of_beq:∀ {a b:Ty},a.beq b=true->a=b
 | .int k,b,h=>by
  cases b<;>first| cases h| (rw [IntKind.eq_of_beq (a:=k) h])
 | .u8,b,h=>by cases b<;>first| rfl| cases h
 | .str,b,h=>by cases b<;>first| rfl| cases h
 | .bool,b,h=>by cases b<;>first| rfl| cases h
 | .unit,b,h=>by cases b<;>first| rfl| cases h
 | .Vr,b,h=>by cases b<;>first| rfl| cases h
 | .pair a b,t,h=>by
  cases t<;>try cases h
  rename_i c d;have h':(a.beq c&& b.beq d)=true:=h;rw [ao] at h';rw [Ty.eq_of_beq h'.1,Ty.eq_of_beq h'.2]
 | .sl a,b,h=>by
  cases b<;>try cases h
  rename_i c;rw [Ty.eq_of_beq (a:=a) (b:=c) h]
@[reducible] def Ty.den:Ty->Type
 | .int _=>Int
 | .u8=>UInt8
 | .str=>ByteArray
 | .bool=>Bool
 | .unit=>Unit
 | .Vr=>Nat
 | .pair a b=>a.den×b.den
 | .sl e=>List e.den
def Ty.Nr:(τ:Ty)->τ.den
 | .int _=>(0:Int)
 | .u8=>(0:UInt8)
 | .str=>(⟨#[]⟩:ByteArray)
 | .bool=>false
 | .unit=>()
 | .Vr=>(0:Nat)
 | .pair a b=>(a.Nr,b.Nr)
 | .sl _=>[]
def Ty.size:Ty->Nat
 | .unit=>0
 | .pair a b=>a.size+b.size
 | _=>1
def Ty.row:Ty->Bool
 | .unit| .pair .. =>true
 | _=>false
@[reducible] def AJ (α:Type) (r:aO α):aO (List α):=inferInstance
@[reducible] def Ty.rep:(τ:Ty)->aO τ.den
 | .int k=> {size:=1,agg:=false,rel:=λ_ cs n=>cs= [.int k n]/\(Lit.int k n).wf=true,mono:=λ_ h=>h,len:=λh=>by rw [h.1];rfl}
 | .u8=>(inferInstance:aO UInt8)
 | .str=>(inferInstance:aO ByteArray)
 | .bool=>(inferInstance:aO Bool)
 | .Vr=> {size:=1,agg:=false,rel:=λ_ cs n=>cs= [.func (.func n) #[] #[]],mono:=λ_ h=>h,len:=λh=>by rw [h];rfl}
 | .unit=> {size:=0,agg:=true,rel:=λ_ cs _=>cs= [],mono:=λ_ h=>h,len:=λh=>by rw [h];rfl}
 | .pair a b=>
  {size:=a.rep.size+b.rep.size,agg:=true
   rel:=λw cs x=>∃ c1 c2,cs=c1++c2/\a.rep.rel w c1 x.1/\b.rep.rel w c2 x.2
   mono:=λhl h=>by
    obtain ⟨c1,c2,e,h1,h2⟩:=h;exact ⟨c1,c2,e,a.rep.mono hl h1,b.rep.mono hl h2⟩
   len:=λh=>by
    obtain ⟨c1,c2,e,h1,h2⟩:=h;rw [e,af,a.rep.len h1,b.rep.len h2]}
 | .sl e=>AJ e.den e.rep
theorem Ty.gp:∀ τ:Ty,τ.rep.size=τ.size
 | .int _| .u8| .str| .bool| .unit| .Vr| .sl _=>rfl
 | .pair a b=>by
  show a.rep.size+b.rep.size=a.size+b.size;rw [a.gp,b.gp]
def nY (e:Ty) (g:World) (v:Value) (x:List e.den):Prop:= @Is (List e.den) (AJ e.den e.rep) g v x
theorem nY.mono {e:Ty} {g g':World} {v:Value} {x:List e.den} (m:bx g g') (h:nY e g v x):nY e g' v x:= @Is.mono _ (AJ e.den e.rep) _ _ _ _ m h
def aK (e:Ty) (x:List e.den) (i:Int):e.den:=x.getD i.toNat e.Nr
theorem Ab {e:Ty} {g:World} {v:Value} {x:List e.den} {i:Int} (h:nY e g v x) (h0:0<=i) (h1:i< x.length):∃ cs,tn g e.size v i cs/\e.rep.rel g cs (aK e x i):=by
 letI:=e.rep;obtain ⟨cs,h2,h3⟩:=adS (α:=e.den) (xs:=x) (g:=g) (v:=v) (i:=i) h h0 h1;have hs:aO.size e.den=e.size:=Ty.gp e;rw [hs] at h2;refine ⟨cs,h2,?_⟩;have:aK e x i=x[i.toNat]'(by omega):=by
  unfold aK;rw [ba,ak (by omega)];rfl
 rw [this];exact h3
inductive Cl
 | k (v:Value)
 | d (e:Ty) (x:List e.den)
 | de (e:Ty) (x:List e.den) (i:Int) (off:Nat)
 | p (l:Nat) (off:Nat)
 | o (l:Nat)
 | os (l:Nat) (sz:Nat) (lo hi:Int)
 | oe (l:Nat) (sz:Nat) (i:Int) (off:Nat)
 | m (l:Nat)
 | sc (l off n:Nat)
 | fn (f:FuncId) (caps:List Cl)
 | AM (t:TypeId) (c:Cl)
 | kl (l:Nat) (v:Value)
 | JX
def aF:IntKind->Int->Prop
 | .i8,n=> -128<=n/\n<=127
 | .i16,n=> -32768<=n/\n<=32767
 | .i32,n=> -2147483648<=n/\n<=2147483647
 | .i64,n=> -9223372036854775808<=n/\n<=9223372036854775807
 | .u8,n=>0<=n/\n<=255
 | .u16,n=>0<=n/\n<=65535
 | .u32,n=>0<=n/\n<=4294967295
 | .u64,n=>0<=n/\n<=18446744073709551615
theorem inK_wf {k:IntKind} {n:Int}:aF k n↔(Lit.int k n).wf=true:=by
 cases k<;>simp [aF,Lit.wf,IntKind.min,kc,eH,gY]
def okV:Value->Prop
 | .int k n=>aF k n
 | .string s=>s.size<=maxLen
 | v=>v.oneCell'=true
abbrev Env:=List Value
mutual
def cr (E:Env) (g:World):Cl->Value->Prop
 | .k v,u=>u=v/\okV v
 | .d e x,u=>nY e g u x
 | .de e x i off,u=>(0<=i/\i< x.length/\off<=e.size)/\∃ v,nY e g v x/\u=ny (jJ e.size v i) off
 | .p l off,u=>∃ b,E[l]?=some (ptr b 0)/\u=ptr b off
 | .o l,u=>E[l]?=some u/\∃ a n c,u= .slice a n c
 | .os l sz lo hi,u=>∃ v,E[l]?=some v/\u=jg sz v lo hi/\∃ a n c,u= .slice a n c
 | .oe l sz i off,u=>∃ v,E[l]?=some v/\u=ny (jJ sz v i) off/\∃ a,u= .pointer (some a)
 | .m l,u=>∃ b,E[l]?=some (ptr b 0)/\u= .map (some b)
 | .sc l off n,u=>∃ b c,E[l]?=some (ptr b 0)/\(n<=c/\c<=maxLen)/\u= .slice (some ⟨b,off,none⟩) n c
 | .fn f caps,u=>∃ us,bA E g caps us/\u= .func (.func f) #[] us.toArray
 | .AM t c,u=>∃ v,cr E g c v/\u= .iface t v
 | .kl l v,u=>(∃ x,E[l]?=some x)/\u=v/\v.oneCell'=true
 | .JX,u=>u.oneCell'=true
def bA (E:Env) (g:World):List Cl->List Value->Prop
 | [],us=>us= []
 | c::l,us=>∃ u r,us=u::r/\cr E g c u/\bA E g l r
end
section
variable {E E':Env} {g g':World}
def bw (E E':Env):Prop:=∀ (l:Nat) (v:Value),E[l]?=some v->E'[l]?=some v
theorem bw.refl (E:Env):bw E E:=λ_ _ h=>h
theorem bw.trans {A B C:Env} (h:bw A B) (k:bw B C):bw A C:=λl v e=>k l v (h l v e)
theorem bw.app (E L:Env):bw E (E++L):=λl v h=>by
 have hl:=(au.1 h).1;rw [aV hl];exact h
mutual
theorem cr.mono (he:bw E E') (m:bx g g'):∀ {c:Cl} {u:Value},cr E g c u->cr E' g' c u
 | .k _,_,h=>h
 | .d _ _,_,h=>nY.mono m h
 | .de _ _ _ _,_,⟨h,v,h1,h2⟩=>⟨h,v,h1.mono m,h2⟩
 | .p _ _,_,⟨b,h1,h2⟩=>⟨b,he _ _ h1,h2⟩
 | .o _,_,⟨h,h2⟩=>⟨he _ _ h,h2⟩
 | .os _ _ _ _,_,⟨v,h1,h2⟩=>⟨v,he _ _ h1,h2⟩
 | .oe _ _ _ _,_,⟨v,h1,h2⟩=>⟨v,he _ _ h1,h2⟩
 | .m _,_,⟨b,h1,h2⟩=>⟨b,he _ _ h1,h2⟩
 | .sc _ _ _,_,⟨b,c,h1,h2⟩=>⟨b,c,he _ _ h1,h2⟩
 | .fn _ _,_,⟨us,h1,h2⟩=>⟨us,h1.mono he m,h2⟩
 | .AM _ _,_,⟨v,h1,h2⟩=>⟨v,h1.mono he m,h2⟩
 | .kl _ _,_,⟨⟨x,h1⟩,h2⟩=>⟨⟨x,he _ _ h1⟩,h2⟩
 | .JX,_,h=>h
theorem bA.mono (he:bw E E') (m:bx g g'):∀ {l:List Cl} {us:List Value},bA E g l us->bA E' g' l us
 | [],_,h=>h
 | _::_,_,⟨u,r,e,h1,h2⟩=>⟨u,r,e,h1.mono he m,h2.mono he m⟩
end
theorem bA.nil:bA E g [] []:=rfl
theorem bA.cons {c:Cl} {u:Value} {l:List Cl} {us:List Value} (h:cr E g c u) (k:bA E g l us):bA E g (c::l) (u::us):=⟨u,us,rfl,h,k⟩
theorem bA.length:∀ {l:List Cl} {us:List Value},bA E g l us->us.length=l.length
 | [],_,h=>by rw [show _=_ from h];rfl
 | _::_,_,⟨_,_,e,_,h⟩=>by rw [e,aq,aq,h.length]
theorem bA.app:∀ {l k:List Cl} {us vs:List Value},bA E g l us->bA E g k vs->bA E g (l++k) (us++vs)
 | [],_,_,_,h,hk=>by rw [show _=_ from h];exact hk
 | _::_,_,_,_,⟨u,r,e,h1,h2⟩,hk=>by rw [e];exact ⟨u,r++_,rfl,h1,h2.app hk⟩
theorem bA.split:∀ {l k:List Cl} {us:List Value},bA E g (l++k) us->∃ u1 u2,us=u1++u2/\bA E g l u1/\bA E g k u2
 | [],_,us,h=>⟨[],us,rfl,rfl,h⟩
 | _::l,_,_,⟨u,r,e,h1,h2⟩=>by
  obtain ⟨u1,u2,e2,h3,h4⟩:=bA.split (l:=l) h2;exact ⟨u::u1,u2,by rw [e,e2];rfl,⟨u,u1,rfl,h1,h3⟩,h4⟩
theorem bA.get:∀ {l:List Cl} {us:List Value} {i:Nat} {c:Cl},bA E g l us->l[i]?=some c->∃ u,us[i]?=some u/\cr E g c u
 | [],_,_,_,_,h=>by simp at h
 | x::l,_,0,c,⟨u,r,e,h1,_⟩,h=>by
  have:x=c:=by simpa using h
  subst this;exact ⟨u,by rw [e];rfl,h1⟩
 | x::l,_,i+1,c,⟨u,r,e,_,h2⟩,h=>by
  obtain ⟨v,h3,h4⟩:=bA.get (i:=i) h2 (by simpa using h);exact ⟨v,by rw [e];simpa using h3,h4⟩
theorem bA.drop:∀ {l:List Cl} {us:List Value} (n:Nat),bA E g l us->bA E g (l.drop n) (us.drop n)
 | _,_,0,h=>h
 | [],us,n+1,h=>by rw [show us= [] from h];exact bA.nil
 | _::l,_,n+1,⟨u,r,e,_,h2⟩=>by rw [e];exact h2.drop n
theorem bA.take:∀ {l:List Cl} {us:List Value} (n:Nat),bA E g l us->bA E g (l.take n) (us.take n)
 | _,_,0,h=>rfl
 | [],us,n+1,h=>by rw [show us= [] from h];exact bA.nil
 | _::l,_,n+1,⟨u,r,e,h1,h2⟩=>by rw [e];exact ⟨u,r.take n,rfl,h1,h2.take n⟩
theorem bA.set:∀ {l:List Cl} {us:List Value} (i:Nat) {c:Cl} {u:Value},bA E g l us->cr E g c u->bA E g (l.set i c) (us.set i u)
 | [],us,_,_,_,h,_=>by rw [show us= [] from h];exact bA.nil
 | _::l,_,0,c,u,⟨x,r,e,_,h2⟩,hc=>by rw [e];exact ⟨u,r,rfl,hc,h2⟩
 | _::l,_,i+1,c,u,⟨x,r,e,h1,h2⟩,hc=>by rw [e];exact ⟨x,r.set i u,rfl,h1,h2.set i hc⟩
end

def Ty.cells:(τ:Ty)->τ.den->List Cl
 | .int k,n=>[.k (.int k n)]
 | .u8,b=>[.k (.int .u8 (b.toNat:Int))]
 | .str,s=>[.k (.string s)]
 | .bool,b=>[.k (.bool b)]
 | .unit,_=>[]
 | .Vr,f=>[.fn f []]
 | .pair a b,x=>a.cells x.1++b.cells x.2
 | .sl e,x=>[.d e x]
def Ty.ok:(τ:Ty)->τ.den->Prop
 | .int k,n=>aF k n
 | .str,s=>s.size<=9223372036854775807
 | .pair a b,x=>a.ok x.1/\b.ok x.2
 | .sl _,x=>x.length<=9223372036854775807
 | _,_=>True
theorem lM {e:Ty} {g:World} {v:Value} {x:List e.den} (h:nY e g v x):x.length<=9223372036854775807:=by
 have:= @Is.YB e.den e.rep g v x h;omega
theorem eY (E:Env) (g:World):∀ (τ:Ty) {x:τ.den} {us:List Value},τ.rep.rel g us x->bA E g (τ.cells x) us/\τ.ok x
 | .int k,x,us,h=>⟨⟨_,[],h.1,⟨rfl,inK_wf.2 h.2⟩,rfl⟩,inK_wf.2 h.2⟩
 | .u8,x,us,h=>⟨⟨_,[],h,⟨rfl,by
   have h1:x.toNat< 256:=UInt8.toNat_lt x;show (0:Int)<=(x.toNat:Int)/\(x.toNat:Int)<=255;omega⟩,rfl⟩,trivial⟩
 | .str,x,us,h=>⟨⟨_,[],h.1,⟨rfl,h.2⟩,rfl⟩,h.2⟩
 | .bool,x,us,h=>⟨⟨_,[],h,⟨rfl,rfl⟩,rfl⟩,trivial⟩
 | .unit,x,us,h=>⟨h,trivial⟩
 | .Vr,x,us,h=>⟨⟨_,[],h,⟨[],rfl,rfl⟩,rfl⟩,trivial⟩
 | .pair a b,x,us,⟨c1,c2,e,h1,h2⟩=>by
  obtain ⟨p1,p2⟩:=eY E g a h1;obtain ⟨q1,q2⟩:=eY E g b h2;rw [e];exact ⟨p1.app q1,p2,q2⟩
 | .sl e,x,us,⟨v,h1,h2⟩=>by
  have hv:nY e g v x:=(@dv e.den e.rep g v x).2 h2;exact ⟨⟨v,[],h1,hv,rfl⟩,lM hv⟩
def ofInt (k:IntKind):List Cl->Option (Int×List Cl)
 | .k (.int k' n)::r=>if k'=k then some (n,r) else none
 | _=>none
def ahJ:List Cl->Option (UInt8×List Cl)
 | .k (.int .u8 n)::r=>some (az n.toNat,r)
 | _=>none
def ofStr:List Cl->Option (ByteArray×List Cl)
 | .k (.string s)::r=>some (s,r)
 | _=>none
def ofBool:List Cl->Option (Bool×List Cl)
 | .k (.bool b)::r=>some (b,r)
 | _=>none
def afz {e e':Ty} (h:e'=e) (x:List e'.den):List e.den:=h▸x
def zf {e':Ty} (e:Ty) (x:List e'.den):Option (List e.den):=if h:e'.beq e=true then some (afz (Ty.eq_of_beq h) x) else none
theorem ev {e e':Ty} {x:List e'.den} {y:List e.den} (h:zf e x=some y):∃ q:e'=e,y=afz q x:=by
 unfold zf at h;split at h;exact ⟨_,(aj h).symm⟩;cases h
def ahK (e:Ty):List Cl->Option (List e.den×List Cl)
 | .k (.slice none 0 0)::r=>some ([],r)
 | .d _ x::r=>match zf e x with
  | some y=>some (y,r)
  | none=>none
 | _=>none
def ofFn:List Cl->Option (Nat×List Cl)
 | .fn f []::r=>some (f,r)
 | _=>none
def Ty.of:(τ:Ty)->List Cl->Option (τ.den×List Cl)
 | .int k,l=>ofInt k l
 | .u8,l=>ahJ l
 | .str,l=>ofStr l
 | .bool,l=>ofBool l
 | .unit,l=>some ((),l)
 | .Vr,l=>ofFn l
 | .pair a b,l=>match a.of l with
  | some (x,r)=>match b.of r with
   | some (y,r')=>some ((x,y),r')
   | none=>none
  | none=>none
 | .sl e,l=>ahK e l
theorem of_cells {E:Env} {g:World}:∀ (τ:Ty) {l r:List Cl} {x:τ.den} {us:List Value},τ.of l=some (x,r)->bA E g l us->∃ u1 u2,us=u1++u2/\τ.rep.rel g u1 x/\bA E g r u2
 | .int k,l,r,x,us,h,hr=>by
  change ofInt k l=_ at h;unfold ofInt at h;split at h
  .split at h
   .rename_i hk;subst hk;cases h;obtain ⟨u,r1,e,⟨h1,h2⟩,h3⟩:=hr;subst h1;exact ⟨[_],r1,e,⟨rfl,inK_wf.1 h2⟩,h3⟩
   .cases h
  .cases h
 | .u8,l,r,x,us,h,hr=>by
  change ahJ l=_ at h;unfold ahJ at h;split at h
  .cases h;obtain ⟨u,r1,e,⟨h1,h2⟩,h3⟩:=hr;subst h1;refine ⟨[_],r1,e,?_,h3⟩;rename_i n;have h2':0<=n/\n<=255:=h2;show [Value.int .u8 n]= [Value.int .u8 ((az n.toNat).toNat:Int)];have:((az n.toNat).toNat:Int)=n:=by
    simp [UInt8.toNat_ofNat'];omega
   rw [this]
  .cases h
 | .str,l,r,x,us,h,hr=>by
  change ofStr l=_ at h;unfold ofStr at h;split at h
  .cases h;obtain ⟨u,r1,e,⟨h1,h2⟩,h3⟩:=hr;subst h1;exact ⟨[_],r1,e,⟨rfl,h2⟩,h3⟩
  .cases h
 | .bool,l,r,x,us,h,hr=>by
  change ofBool l=_ at h;unfold ofBool at h;split at h
  .cases h;obtain ⟨u,r1,e,⟨h1,h2⟩,h3⟩:=hr;subst h1;exact ⟨[_],r1,e,rfl,h3⟩
  .cases h
 | .Vr,l,r,x,us,h,hr=>by
  change ofFn l=_ at h;unfold ofFn at h;split at h
  .cases h;obtain ⟨u,r1,e,⟨tu,h1,h2⟩,h3⟩:=hr;obtain rfl:tu= []:=h1;subst h2;exact ⟨[_],r1,e,rfl,h3⟩
  .cases h
 | .unit,l,r,x,us,h,hr=>by
  cases h;exact ⟨[],us,rfl,rfl,hr⟩
 | .pair a b,l,r,x,us,h,hr=>by
  unfold Ty.of at h;cases ha:a.of l with
  | none=>simp [ha] at h
  | some p=>
   obtain ⟨x1,r1⟩:=p;cases hb:b.of r1 with
   | none=>simp [ha,hb] at h
   | some q=>
    obtain ⟨x2,r2⟩:=q;simp [ha,hb] at h;obtain ⟨rfl,rfl⟩:=h;obtain ⟨u1,u2,e1,h1,h2⟩:=of_cells a ha hr;obtain ⟨u3,u4,e2,h3,h4⟩:=of_cells b hb h2;exact ⟨u1++u3,u4,by rw [e1,e2,aG],⟨u1,u3,rfl,h1,h3⟩,h4⟩
 | .sl e,l,r,x,us,h,hr=>by
  change ahK e l=_ at h;unfold ahK at h;split at h
  .cases h;obtain ⟨u,r1,eq,⟨h1,h2⟩,h3⟩:=hr;subst h1;exact ⟨[_],r1,eq,⟨_,rfl,.inl ⟨rfl,rfl⟩⟩,h3⟩
  .split at h
   .rename_i he;obtain ⟨q,hy⟩:=ev he;subst q;cases h;subst hy;obtain ⟨u,r1,eq,h1,h3⟩:=hr;exact ⟨[u],r1,eq,⟨u,rfl,(@dv _ (Ty.rep _) g u _).1 h1⟩,h3⟩
   .cases h
  .cases h
open Go Go.RowKit Go.WideMaps
abbrev K3:=UInt8×UInt8×UInt8
def K3.v (k:K3):Value:=.agg #[.int .u8 (k.1.toNat:Int),.int .u8 (k.2.1.toNat:Int),.int .u8 (k.2.2.toNat:Int)]
instance:dF K3 where
 dec:=inferInstance
 lit k:=.string [k.1,k.2.1,k.2.2]
 val:=K3.v
 ok _:=True
 same a b:=by
  simp only [Lit.sameKey];rw [Bool.eq_iff_iff];simp only [beq_iff_eq,decide_eq_true_eq];constructor
  .intro h;obtain ⟨a1,a2,a3⟩:=a;obtain ⟨b1,b2,b3⟩:=b;simp at h;obtain ⟨h1,h2,h3⟩:=h;rw [h1,h2,h3]
  .intro h;rw [h]
 inj a b h:=by
  obtain ⟨a1,a2,a3⟩:=a;obtain ⟨b1,b2,b3⟩:=b;simp at h;obtain ⟨h1,h2,h3⟩:=h;rw [h1,h2,h3]
def wU (P:Program) (k:TypeId):Bool:=match P.underlying k with
 | some (.array n e)=>Nat.beq n 3&& (match P.underlying e with
  | some (.int .u8)=>Nat.beq (P.cellsOf e) 1&& (Nat.beq (P.cellsOf k) 3&& gn 0 P.types.size)
  | _=>false)
 | _=>false
theorem DA:∀ {a b:List UInt8},a≠b->bytesBefore a b=true\/bytesBefore b a=true
 | [],[],h=>absurd rfl h
 | [],_::_,_=>.inl rfl
 | _::_,[],_=>.inr rfl
 | x::a,y::b,h=>by
  unfold bytesBefore;by_cases e:x=y
  .subst e;have h2:a≠b:=λq=>h (by rw [q]);rcases DA h2 with h3| h3
   .left;simp [h3]
   .right;simp [h3]
  .have:x< y\/y< x:=by
    rcases mK x.toNat y.toNat with h3| h3| h3;exact .inl (UInt8.lt_iff_toNat_lt.2 h3);exact absurd (UInt8.toNat_inj.1 h3) e;exact .inr (UInt8.lt_iff_toNat_lt.2 h3)
   rcases this with h3| h3
   .left;simp [h3]
   .right;simp [h3]
theorem Pz {P:Program} {e:TypeId} (he:P.underlying e=some (.int .u8)) (d:Nat) (b:UInt8):P.keyLits (d+1) e [.int .u8 (b.toNat:Int)]=some [.int .u8 (b.toNat:Int)]:=by
 have hb:b.toNat< 256:=UInt8.toNat_lt b;unfold Program.keyLits;rw [he];have:(Lit.int .u8 (b.toNat:Int)).wf=true:=by
  simp [Lit.wf,IntKind.min,kc,eH,gY];omega
 simp [this]
theorem ai6 (b:UInt8):Lit.keyBytes (.int .u8 (b.toNat:Int))= [b]:=by
 have hb:b.toNat< 256:=UInt8.toNat_lt b;show bytesBE (8 / 8) _=_;have:((b.toNat:Int) % 2 ^ 8).toNat=b.toNat:=by omega
 show bytesBE 1 (((b.toNat:Int) % 2 ^ 8).toNat)=_;rw [this];simp [bytesBE,bytesLE]
theorem Jg {P:Program} {k:TypeId} (h:wU P k=true):∃ e,ArrKey P k e 3/\P.underlying e=some (.int .u8)/\∃ m,P.types.size=m+1:=by
 unfold wU at h;split at h
 .rename_i n e hu;simp only [ao] at h;obtain ⟨h1,h⟩:=h;obtain rfl:=ai h1;split at h
  .rename_i he;simp only [ao] at h;obtain ⟨h2,h3,h4⟩:=h;refine ⟨e,⟨hu,?_,ai h2,ai h3⟩,he,P.types.size - 1,?_⟩
   .unfold Program.plainKey;rw [he]
   .have:0< P.types.size:=by simpa using h4
    omega
  .cases h
 .cases h
theorem MQ {P:Program} {k:TypeId} (h:wU P k=true) (x:K3):keyOf P k (dF.val x)=some (dF.lit x):=by
 obtain ⟨e,A,he,m,hm⟩:=Jg h;unfold keyOf;rw [A.hu];have hk:P.keyType k=true:=A.keyType ⟨m,hm⟩;have hf:Value.formed P k (dF.val x)=true:=by
  show Value.formed P k (K3.v x)=true;unfold K3.v Value.formed;simp only;rw [A.hu];simp [A.size]
 rw [hk,hf];have hl:P.keyLits (P.types.size+1) k (dF.val x).cells.toList=some [.int .u8 (x.1.toNat:Int),.int .u8 (x.2.1.toNat:Int),.int .u8 (x.2.2.toNat:Int)]:=by
  show P.keyLits (P.types.size+1) k [.int .u8 (x.1.toNat:Int),.int .u8 (x.2.1.toNat:Int),.int .u8 (x.2.2.toNat:Int)]=_;rw [hm]
  conv=>lhs;unfold Program.keyLits
  rw [A.hu];simp only [A.size,A.one,aq,aM];have r3:bN 3= [0,1,2]:=rfl;simp [r3,Pz he]
 simp only [Bool.and_self,if_true];rw [hl];show some (Lit.string (keyBytes _))=some (Lit.string _);unfold keyBytes;simp only [j9,List.flatMap_nil,ai6];rfl
theorem Je {P:Program} {k:TypeId} (h:wU P k=true):xA P k K3:=by
 obtain ⟨e,A,he,m,hm⟩:=Jg h;have L:=A.law;exact {
  keyed:= {
   key:=λhv=>by obtain ⟨s,rfl⟩:=L.str hv;trivial
   total:=λh1 h2 gx=>by
    obtain ⟨s1,rfl⟩:=L.str h1;obtain ⟨s2,rfl⟩:=L.str h2;exact DA λq=>gx (by rw [q])
   inj:=L.inj
   check:=L.check
   find:=L.find
   stays:=L.stays}
  of:=λx _=>MQ h x
  inv:=λv x hv=>⟨L.inj hv (MQ h x),trivial⟩}
theorem wN {κ:Type} [dF κ] {P P':Program} {t:TypeId} (hk:∀ v,keyOf P t v=keyOf P' t v) {bb:Nat} {m:List (κ×Value)} {g:World} {hh:Hp}:(mapA P t bb m).sat g hh->(mapA P' t bb m).sat g hh:=by
 rintro ⟨es,clock,h1,⟨⟨f1,f2,f3⟩,h3⟩⟩;have MX:∀ x,WideElems.rd P t eL x=WideElems.rd P' t eL x:=λx=>by unfold WideElems.rd;rw [hk]
 refine ⟨es,clock,h1,⟨⟨f1,f2,λx hx=>by rw [<-MX];exact f3 x hx⟩,?_⟩⟩;have wW:WideElems.rg P' t eL=WideElems.rg P t eL:=funext λx=>by unfold WideElems.rg;rw [MX]
 rw [wW];exact h3
theorem keyLits_int {P:Program} {e:TypeId} {q:IntKind} (he:P.underlying e=some (.int q)) (d:Nat) (c:List Value):P.keyLits (d+1) e c=(match c with
  | [.int q' n]=>if q'=q/\(Lit.int q n).wf=true then some [.int q n] else none
  | _=>none):=by
 unfold Program.keyLits;rw [he];rcases c with _| ⟨x,_| ⟨y,r⟩⟩;rfl;cases x<;>rfl;cases x<;>rfl
theorem zS {P P':Program} {k:TypeId} (h:wU P k=true) (h':wU P' k=true) (v:Value):keyOf P k v=keyOf P' k v:=by
 obtain ⟨e,A,he,m,hm⟩:=Jg h;obtain ⟨e',A',he',m',hm'⟩:=Jg h';unfold keyOf;rw [A.hu,A'.hu];have hk:P.keyType k=true:=A.keyType ⟨m,hm⟩;have vS:P'.keyType k=true:=A'.keyType ⟨m',hm'⟩;have hf:Value.formed P k v=Value.formed P' k v:=by
  unfold Value.formed;rw [A.hu,A'.hu,A.size,A'.size]
 have hl:P.keyLits (P.types.size+1) k v.cells.toList=P'.keyLits (P'.types.size+1) k v.cells.toList:=by
  rw [hm,hm']
  conv=>lhs;unfold Program.keyLits
  conv=>rhs;unfold Program.keyLits
  rw [A.hu,A'.hu];simp only [A.size,A.one,A'.size,A'.one];have:∀ c,P.keyLits (m+1) e c=P'.keyLits (m'+1) e' c:=λc=>by rw [keyLits_int he,keyLits_int he']
  simp only [this]
 simp only [hk,vS,hf,hl]
end Go.Lm

namespace Go.Lm
open Go Go.RowKit

inductive S1
 | c (x:Cl)
 | agg (l:List Cl)
inductive SV
 | v (x:S1)
 | cJ (l:List S1)
 | any
 | arr (k:IntKind) (l:List Int)
abbrev SV.c (x:Cl):SV:=.v (.c x)
abbrev SV.k (v:Value):SV:=.v (.c (.k v))
abbrev SV.int (n:Int):SV:=.v (.c (.k (.int .i64 n)))
abbrev SV.bool (b:Bool):SV:=.v (.c (.k (.bool b)))
abbrev SV.str (s:ByteArray):SV:=.v (.c (.k (.string s)))
abbrev SV.tx:SV:=.cJ []
def gm (E:Env) (g:World):S1->Value->Prop
 | .c x,u=>cr E g x u
 | .agg l,u=>∃ us,bA E g l us/\u= .agg us.toArray
def gW (E:Env) (g:World):List S1->List Value->Prop
 | [],us=>us= []
 | c::l,us=>∃ u r,us=u::r/\gm E g c u/\gW E g l r
def df (E:Env) (g:World):SV->Value->Prop
 | .v x,u=>gm E g x u
 | .cJ l,u=>∃ us,gW E g l us/\u= .tuple us.toArray
 | .any,_=>True
 | .arr k l,u=>u= .agg (l.map λn=>Value.int k n).toArray/\∀ n∈l,aF k n
section
variable {E E':Env} {g g':World}
theorem gm.mono (he:bw E E') (m:bx g g'):∀ {x:S1} {u:Value},gm E g x u->gm E' g' x u
 | .c _,_,h=>cr.mono he m h
 | .agg _,_,⟨us,h1,h2⟩=>⟨us,h1.mono he m,h2⟩
theorem gW.mono (he:bw E E') (m:bx g g'):∀ {l:List S1} {us:List Value},gW E g l us->gW E' g' l us
 | [],_,h=>h
 | _::_,_,⟨u,r,e,h1,h2⟩=>⟨u,r,e,h1.mono he m,h2.mono he m⟩
theorem df.mono (he:bw E E') (m:bx g g'):∀ {x:SV} {u:Value},df E g x u->df E' g' x u
 | .v _,_,h=>gm.mono he m h
 | .cJ _,_,⟨us,h1,h2⟩=>⟨us,h1.mono he m,h2⟩
 | .any,_,_=>trivial
 | .arr _ _,_,h=>h
theorem gW.get:∀ {l:List S1} {us:List Value} {i:Nat} {c:S1},gW E g l us->l[i]?=some c->∃ u,us[i]?=some u/\gm E g c u
 | [],_,_,_,_,h=>by simp at h
 | x::l,_,0,c,⟨u,r,e,h1,_⟩,h=>by
  have:x=c:=by simpa using h
  subst this;exact ⟨u,by rw [e];rfl,h1⟩
 | x::l,_,i+1,c,⟨u,r,e,_,h2⟩,h=>by
  obtain ⟨v,h3,h4⟩:=gW.get (i:=i) h2 (by simpa using h);exact ⟨v,by rw [e];simpa using h3,h4⟩
theorem gW.length:∀ {l:List S1} {us:List Value},gW E g l us->us.length=l.length
 | [],_,h=>by rw [show _=_ from h];rfl
 | _::_,_,⟨_,_,e,_,h⟩=>by rw [e,aq,aq,h.length]
theorem iY:df E g .tx undef:=⟨[],rfl,rfl⟩
def S1.cells:S1->List Cl
 | .c x=>[x]
 | .agg l=>l
theorem cr.one:∀ {c:Cl} {u:Value},cr E g c u->u.oneCell'=true
 | .k v,_,⟨h,hk⟩=>by
  rw [h];cases v<;>first| rfl| exact hk
 | .d e x,u,h=> @ahH e.den e.rep _ _ _ h
 | .de e x i off,u,⟨h0,v,h1,h2⟩=>by
  obtain ⟨cs,h3,_⟩:=Ab h1 h0.1 h0.2.1;obtain ⟨a,ha,_⟩:=h3 g (bx.refl g);rw [h2,ha];rfl
 | .p l off,_,⟨b,_,h⟩=>by rw [h];rfl
 | .m l,_,⟨b,_,h⟩=>by rw [h];rfl
 | .sc l off n,_,⟨b,c,_,_,h⟩=>by rw [h];rfl
 | .fn f caps,_,⟨us,_,h⟩=>by rw [h];rfl
 | .AM t c,_,⟨v,_,h⟩=>by rw [h];rfl
 | .JX,_,h=>h
 | .kl _ _,_,⟨_,h,h2⟩=>by rw [h];exact h2
 | .o l,_,⟨_,a,n,c,h⟩=>by rw [h];rfl
 | .os l sz lo hi,_,⟨_,_,_,a,n,c,h⟩=>by rw [h];rfl
 | .oe l sz i off,_,⟨_,_,_,a,h⟩=>by rw [h];rfl
theorem bA.one:∀ {l:List Cl} {us:List Value},bA E g l us->∀ u∈us,u.oneCell'=true
 | [],us,h,u,hu=>by rw [show us= [] from h] at hu;cases hu
 | _::_,_,⟨x,r,e,h1,h2⟩,u,hu=>by
  rw [e] at hu;rcases bm.1 hu with hu| hu;rw [hu];exact h1.one;exact h2.one u hu
theorem nM {u:Value} (h:u.oneCell'=true):u.cells= #[u]:=by cases u<;>first| rfl| cases h
theorem gm.cells:∀ {x:S1} {u:Value},gm E g x u->bA E g x.cells u.cells.toList
 | .c x,u,h=>by
  have h':cr E g x u:=h;rw [nM h'.one];exact ⟨u,[],rfl,h',rfl⟩
 | .agg l,u,⟨us,h1,h2⟩=>by rw [h2];exact h1
inductive Kk
 | int| str
@[reducible] def Kk.den:Kk->Type
 | .int=>Int
 | .str=>ByteArray
@[reducible] def Kk.key:(k:Kk)->dF k.den
 | .int=>(inferInstance:dF Int)
 | .str=>(inferInstance:dF ByteArray)
def Kk.get {α:Type} (k:Kk) (l:List (k.den×α)) (x:k.den):Option α:= @iC k.den k.key α l x
def Kk.put {α:Type} (k:Kk) (l:List (k.den×α)) (x:k.den) (v:α):List (k.den×α):= @qL k.den k.key α l x v
def Kk.del {α:Type} (k:Kk) (l:List (k.den×α)) (x:k.den):List (k.den×α):= @mF k.den k.key α l x
def jT (P:Program) (t:TypeId) (k:Kk):Bool:=match P.underlying t,k with
 | some (.int .i64),.int=>true
 | some .string,.str=>true
 | _,_=>false
def Kk.beq:Kk->Kk->Bool
 | .int,.int| .str,.str=>true
 | _,_=>false
theorem Kk.eq_of_beq:∀ {a b:Kk},a.beq b=true->a=b:=by
 intro a b;cases a<;>cases b<;>intro h<;>first| rfl| cases h
def afy {k' k:Kk} {e' e:Ty} (h:k'=k) (q:e'=e) (x:List (k'.den×e'.den)):List (k.den×e.den):=h▸q▸x
def asM {k':Kk} {e':Ty} (k:Kk) (e:Ty) (x:List (k'.den×e'.den)):Option (List (k.den×e.den)):=
 if h:k'.beq k=true then (if q:e'.beq e=true then some (afy (Kk.eq_of_beq h) (Ty.eq_of_beq q) x) else none) else none
theorem aap {k' k:Kk} {e' e:Ty} {x:List (k'.den×e'.den)} {y:List (k.den×e.den)} (h:asM k e x=some y):∃ (p:k'=k) (q:e'=e),y=afy p q x:=by
 unfold asM at h;split at h
 .split at h
  exact ⟨_,_,(aj h).symm⟩;cases h
 .cases h
def IsV (g:World) (e:Ty) (u:Value) (x:e.den):Prop:=∃ cs,e.rep.rel g cs x/\if e.row then u= .agg cs.toArray else cs= [u]
def rG (g:World) (k:Kk) (e:Ty):List (k.den×Value)->List (k.den×e.den)->Prop
 | [],xs=>xs= []
 | p::m,xs=>∃ x r,xs=(p.1,x)::r/\IsV g e p.2 x/\rG g k e m r
theorem IsV.mono (m:bx g g') {e:Ty} {u:Value} {x:e.den}:IsV g e u x->IsV g' e u x:=λ⟨cs,h1,h2⟩=>⟨cs,e.rep.mono m h1,h2⟩
theorem rG.mono (m:bx g g') {k:Kk} {e:Ty}:∀ {l:List (k.den×Value)} {xs:List (k.den×e.den)},rG g k e l xs->rG g' k e l xs
 | [],_,h=>h
 | _::_,_,⟨x,r,q,h1,h2⟩=>⟨x,r,q,h1.mono m,h2.mono m⟩
abbrev eD:Ty:=.pair .str (.pair (.sl .u8) .unit)
abbrev noTy:Ty:=.pair (.sl .str) (.pair (.int .i64) (.pair (.int .i64) (.pair (.pair (.int .i64) (.pair (.int .i64) (.pair (.int .i64) .unit))) (.pair (.sl .u8) (.pair .str (.pair (.sl eD) (.pair .bool .unit)))))))
abbrev bu:=List ByteArray×Int×Int×(Int×Int×Int×Unit)×List UInt8×ByteArray×List (ByteArray×List UInt8×Unit)×Bool×Unit
abbrev TX:=Int×ByteArray×Int×Unit
structure UpY where
 q1:Int
 q2:Int
 L:List bu
 E:List TX
 nx:Int
def rM (r:Int) (n:bu):Bool:=n.2.1==r
def isE (d:Int) (s:ByteArray) (e:TX):Bool:=e.1==d&& decide (e.2.1=s)
def Uq (r:Int) (e:TX):Bool:=e.2.2.1==r
def UpY.at (Y:UpY) (r:Int):Option bu:=Y.L.find? (rM r)
def UpY.kC (Y:UpY) (d:Int) (s:ByteArray):Option TX:=Y.E.find? (isE d s)
def UpY.ae5 (Y:UpY) (r:Int):Int:=if r=1 then 1 else (Y.E.countP (Uq r):Int)
abbrev ur:=List (K3×Value×List Int)
def vE (M:ur):List (K3×Value):=M.map λp=>(p.1,p.2.1)
def sD {α:Type} (M:List (Int×Nat×α)):List (Int×Value):=M.map λp=>(p.1,ptr p.2.1 0)
inductive HK
 | ch (kt tI:TypeId) (M:ur) (o:Option (Nat×Value)) (key:K3) (st:Option Nat)
 | pm (kt tR:TypeId) (e:Ty) (M:List (Int×Nat×e.den)) (i:Nat) (key:Int) (bb:Nat)
 | sf (t:TypeId) (e:Ty) (xs:List e.den) (i:Int) (off:Nat)
inductive AbK
 | iter (z:ByteArray) (p:Nat)
 | ch (kt tI:TypeId) (M:ur)
 | pm (kt tR:TypeId) (e:Ty) (M:List (Int×Nat×e.den))
 | pz (kt tR:TypeId) (e:Ty) (M:List (Int×Nat×e.den)) (hz:Hp) (mb:Nat)
 | Pd (kt:TypeId) (l:Nat) (e:Ty) (hz:Hp) (mb:Nat) (left:List (Int×Nat×e.den)) (cur:Option (Int×Nat×e.den))
def pj (e:Ty) (t:TypeId) (v:Value) (xs:List e.den):Atom:= @BK e.den e.rep t v xs
def Kk.tx:Kk->TypeDesc
 | .int=>.int .i64
 | .str=>.string
def QB (hz:Hp) (v0:Value) (ob:Array MapEntry×Nat):Prop:=v0= .map none\/∃ b,v0= .map (some b)/\hz b=some (.map ob.1 ob.2)
def Od (tI:TypeId) (p:K3×Value×List Int):Atom:=pj (.int .i64) tI p.2.1 p.2.2
def sY (tR:TypeId) (e:Ty) (p:Int×Nat×e.den):Atom:=⟨λg h=>∃ us,e.rep.rel g us p.2.2/\h p.2.1=some (.cells us.toArray tR (0,0)),λm ⟨us,h1,h2⟩=>⟨us,e.rep.mono m h1,h2⟩⟩
def Yg (A:List Atom) (o:Option (Nat×Value)):List Atom:=match o with
 | some (i,_)=>dC A i
 | none=>A
def aeD (M:ur) (o:Option (Nat×Value)) (key:K3) (st:Option Nat) (vn:Value):Prop:=match o with
 | some (i,u)=>(∃ xs,M[i]?=some (key,u,xs))/\(st=none->u=vn)
 | none=>∀ p∈M,p.1≠key
def Pt (P:Program) (kt:TypeId) (mb:Nat) (M:ur) (key:K3) (val:Value):Option Nat->Atom
 | none=>mapA P kt mb (vE M)
 | some st=>Gm P kt mb (qL (vE M) key val) key st
def chA (kt tI:TypeId) (M:ur) (v:Value):Atom:=
 exA λx:Nat×Program=>sE (v=ptr x.1 0/\wU x.2 kt=true)::mapA x.2 kt x.1 (vE M)::M.map (Od tI)
def pmA (kt tR:TypeId) (e:Ty) (M:List (Int×Nat×e.den)) (v:Value):Atom:=
 exA λx:Nat×Program=>sE (v=ptr x.1 0/\x.2.underlying kt=some (.int .i64))::mapA x.2 kt x.1 (sD M)::M.map (sY tR e)
def sfA (t:TypeId) (e:Ty) (xs:List e.den) (i:Int) (off:Nat) (v vn:Value):Atom:=
 ⟨λg h=>∃ cs:List (List Value),(uh t e.size v xs.length cs.flatten).sat g h/\((∀ x∈cs,x.length=e.size)/\cs.length=xs.length/\0<=i/\i< xs.length/\off< e.size)/\((∃ a n c,vn= .slice a n c)/\∃ r,cs[i.toNat]?=some r/\r[off]?=some vn)/\∀ g',bx g g'->∀ (E:Env) (c:Cl),cr E g' c vn->∀ x',e.of ((e.cells (aK e xs i)).set off c)=some (x',[])-> @eC e.den e.rep g' cs (xs.set i.toNat x'),λm ⟨cs,h1,h2,h3,h4⟩=>⟨cs,(uh _ _ _ _ _).mono m h1,h2,h3,λg' m'=>h4 g' (m.trans m')⟩⟩
def ac1 {α:Type} (kt:TypeId) (hz:Hp) (mb:Nat) (left:List (Int×Nat×α)) (cur:Option (Int×Nat×α)) (v:Value):Atom:=
 exA λx:Nat×Program×(Array MapEntry×Nat)=>[sE (v=ptr x.1 0/\x.2.1.underlying kt=some (.int .i64)/\QB hz (.map (some mb)) x.2.2),@mD Int Kk.int.key x.2.1 kt (.map (some mb)) x.2.2 x.1 (sD left) (cur.map λp=>(p.1,ptr p.2.1 0))]
def HK.atom:HK->Value->Value->Atom
 | .ch kt tI M o key st,v,vn=>exA λx:Nat×Program×Value=>sE (v=ptr x.1 0/\wU x.2.1 kt=true/\aeD M o key st vn/\((vE M).map (·.1)).Nodup)::Pt x.2.1 kt x.1 M key x.2.2 st::Yg (M.map (Od tI)) o
 | .pm kt tR e M i key bb,v,vn=>exA λx:Nat×Program=>sE (v=ptr x.1 0/\x.2.underlying kt=some (.int .i64)/\(∃ y,M[i]?=some (key,bb,y))/\vn=ptr bb 0)::mapA x.2 kt x.1 (sD M)::dC (M.map (sY tR e)) i
 | .sf t e xs i off,v,vn=>sfA t e xs i off v vn
def AbK.atom:AbK->Value->Atom
 | .ch kt tI M,v=>chA kt tI M v
 | .pm kt tR e M,v=>pmA kt tR e M v
 | .pz kt tR e M hz mb,v=>⟨λg h=>v=ptr mb 0/\h=hz/\(pmA kt tR e M v).sat g h,λm ⟨h1,h2,h3⟩=>⟨h1,h2,Atom.mono _ m h3⟩⟩
 | .Pd kt _ _ hz mb left cur,v=>ac1 kt hz mb left cur v
 | .iter z p,v=>⟨λ_ h=>z.size<=maxLen/\∃ b,v=ptr b 0/\h b=some (.stringIter z p),λ_ h=>h⟩
inductive HO
 | cells (t:TypeId) (cs:List Cl)
 | sl (t:TypeId) (e:Ty) (xs:List e.den)
 | held (t:TypeId) (e:Ty) (xs:List e.den)
 | map (t:TypeId) (k:Kk) (e:Ty) (xs:List (k.den×e.den))
 | abs (a:Value->Atom)
 | ab (k:AbK)
 | gone
 | qk (k:HK) (n:Nat)
def aiF (E:Env) (l:Nat) (t:TypeId) (cs:List Cl):Atom:=
 ⟨λg h=>∃ b us,E[l]?=some (ptr b 0)/\bA E g cs us/\h b=some (.cells us.toArray t (0,0)),λm ⟨b,us,h1,h2,h3⟩=>⟨b,us,h1,h2.mono (bw.refl _) m,h3⟩⟩
def cF (E:Env) (l:Nat):HO->Atom
 | .cells t cs=>aiF E l t cs
 | .sl t e xs=>⟨λg h=>∃ v,E[l]?=some v/\(pj e t v xs).sat g h,λm ⟨v,h1,h2⟩=>⟨v,h1,Atom.mono _ m h2⟩⟩
 | .held _ e xs=>⟨λg _=>∃ v,E[l]?=some v/\nY e g v xs,λm ⟨v,h1,h2⟩=>⟨v,h1,h2.mono m⟩⟩
 | .map t k e xs=>⟨λg h=>∃ b m,E[l]?=some (ptr b 0)/\rG g k e m xs/\∃ P,jT P t k=true/\(@mapA k.den k.key P t b m).sat g h,λm ⟨b,l,h1,h2,h3⟩=>⟨b,l,h1,h2.mono m,h3⟩⟩
 | .abs a=>⟨λg h=>∃ v,E[l]?=some v/\(a v).sat g h,λm ⟨v,h1,h2⟩=>⟨v,h1,Atom.mono _ m h2⟩⟩
 | .ab k=>⟨λg h=>∃ v,E[l]?=some v/\(k.atom v).sat g h,λm ⟨v,h1,h2⟩=>⟨v,h1,Atom.mono _ m h2⟩⟩
 | .gone=>sE True
 | .qk k n=>⟨λg h=>∃ v vn,E[l]?=some v/\E[n]?=some vn/\(k.atom v vn).sat g h,λm ⟨v,vn,h1,h2,h3⟩=>⟨v,vn,h1,h2,Atom.mono _ m h3⟩⟩
def bj (E:Env):Nat->List HO->List Atom
 | _,[]=>[]
 | l,o::r=>cF E l o::bj E (l+1) r
theorem cF.env (he:bw E E') {l:Nat}:∀ {o:HO} {h:Hp},(cF E l o).sat g h->(cF E' l o).sat g h
 | .cells _ _,_,⟨b,us,h1,h2,h3⟩=>⟨b,us,he _ _ h1,h2.mono he (bx.refl _),h3⟩
 | .sl _ _ _,_,⟨v,h1,h2⟩=>⟨v,he _ _ h1,h2⟩
 | .held _ _ _,_,⟨v,h1,h2⟩=>⟨v,he _ _ h1,h2⟩
 | .map ..,_,⟨b,m,h1,h2⟩=>⟨b,m,he _ _ h1,h2⟩
 | .abs _,_,⟨v,h1,h2⟩=>⟨v,he _ _ h1,h2⟩
 | .ab _,_,⟨v,h1,h2⟩=>⟨v,he _ _ h1,h2⟩
 | .gone,_,h=>h
 | .qk _ _,_,⟨v,vn,h1,h2,h3⟩=>⟨v,vn,he _ _ h1,he _ _ h2,h3⟩
variable {F:List Atom}
theorem bj.env (he:bw E E'):∀ {H:List HO} {k:Nat} {h:Hp},bq g (bj E k H++F) h->bq g (bj E' k H++F) h
 | [],_,_,s=>s
 | _::_,_,_,⟨h1,h2,ap,e,s1,s2⟩=>⟨h1,h2,ap,e,cF.env he s1,bj.env he s2⟩
theorem uN:∀ (H:List HO) (k:Nat),(bj E k H).length=H.length
 | [],_=>rfl
 | _::r,k=>by simp [bj,uN r (k+1)]
theorem jG:∀ {H:List HO} {k l:Nat} {o:HO},H[l]?=some o->wI (bj E k H++F) l=some (cF E (k+l) o)
 | [],_,_,_,h=>by simp at h
 | x::r,k,0,o,h=>by
  have:x=o:=by simpa using h
  subst this;rfl
 | x::r,k,l+1,o,h=>by
  have:=jG (H:=r) (k:=k+1) (l:=l) (o:=o) (by simpa using h);rw [show k+(l+1)=k+1+l by omega];exact this
theorem kE:∀ {H:List HO} {k l:Nat} {o':HO},l< H.length->wk (bj E k H++F) l (cF E (k+l) o')=bj E k (H.set l o')++F
 | [],_,_,_,h=>by simp at h
 | x::r,k,0,o',h=>rfl
 | x::r,k,l+1,o',h=>by
  have:=kE (H:=r) (k:=k+1) (l:=l) (o':=o') (by simpa using h);rw [show k+(l+1)=k+1+l by omega];show cF E k x::wk (bj E (k+1) r++F) l _=cF E k x::(bj E (k+1) (r.set l o')++F);rw [this]
theorem bq.toEnd {a:Atom}:∀ {A:List Atom} {h:Hp},bq g (a::(A++F)) h->bq g (A++a::F) h
 | [],_,s=>s
 | _::_,_,s=>by
  obtain ⟨h1,h2,ap,e,s1,s2⟩:=s.swap;exact ⟨h1,h2,ap,e,s1,bq.toEnd s2⟩
theorem bq.oZ {a:Atom}:∀ {A:List Atom} {h:Hp},bq g (A++a::F) h->bq g (a::(A++F)) h
 | [],_,s=>s
 | _::_,_,⟨h1,h2,ap,e,s1,s2⟩=>bq.swap ⟨h1,h2,ap,e,s1,bq.oZ s2⟩
theorem oJ:∀ (H K:List HO) (k:Nat),bj E k (H++K)=bj E k H++bj E (k+H.length) K
 | [],_,_=>rfl
 | x::r,K,k=>by
  show cF E k x::bj E (k+1) (r++K)=cF E k x::(bj E (k+1) r++bj E (k+(r.length+1)) K);rw [oJ r K (k+1),show k+1+r.length=k+(r.length+1) by omega]
structure Sat (W:cQ) (E:Env) (g w:World) (H:List HO) (F:List Atom):Prop where
 sl:SL W g w (bj E 0 H++F)
 len:E.length=H.length
variable {W:cQ} {w w':World} {H:List HO}
theorem Sat.pick {l:Nat} {o:HO} (S:Sat W E g w H F) (h:H[l]?=some o):SL W g w (cF E l o::dC (bj E 0 H++F) l):=by
 have:=S.sl.pick l (jG h);rw [bW] at this;exact this
theorem Sat.back {l:Nat} {o:HO} (o':HO) (hl:E.length=H.length) (h:H[l]?=some o) (S:SL W g w (cF E l o'::dC (bj E 0 H++F) l)):Sat W E g w (H.set l o') F:=by
 have eK:=(au.1 h).1;refine ⟨?_,by simp [hl]⟩;have:=S.oc l (jG h);have h2:=kE (E:=E) (F:=F) (k:=0) (o':=o') eK;rw [bW] at h2;rw [<-h2];exact this
theorem Sat.push {o:HO} {v:Value} (hl:E.length=H.length) (S:SL W g w (cF (E++ [v]) H.length o::(bj E 0 H++F))):Sat W (E++ [v]) g w (H++ [o]) F:=by
 refine ⟨?_,by simp [hl]⟩;rw [oJ,aG,bW];refine S.cz λh s=>?_;obtain ⟨h1,h2,ap,e,s1,s2⟩:=s;exact bq.toEnd ⟨h1,h2,ap,e,s1,bj.env (bw.app E [v]) s2⟩
theorem Sat.move {l:Nat} {o o2:HO} {v:Value} (hl:E.length=H.length) (h:H[l]?=some o) (S:SL W g w (cF (E++ [v]) H.length o2::dC (bj E 0 H++F) l)):Sat W (E++ [v]) g w (H.set l .gone++ [o2]) F:=by
 have hlen:(H.set l .gone).length=H.length:=gE;refine Sat.push (H:=H.set l .gone) (by simp [hl]) ?_;rw [hlen];refine S.cz λh0 s=>?_;obtain ⟨h1,h2,ap,e,s1,s2⟩:=s;refine ⟨h1,h2,ap,e,s1,?_⟩;have eK:=(au.1 h).1;have h3:=kE (E:=E) (F:=F) (k:=0) (o':=.gone) eK;rw [bW] at h3;rw [<-h3];exact bq.oc (jG h) ⟨λ_=>none,h2,λ_=>.inl rfl,by funext b;rfl,trivial,s2⟩
theorem Sat.le (S:Sat W E g w H F) (l:Le w w'):Sat W E g w' H F:=⟨S.sl.le l,S.len⟩
theorem Sat.m (S:Sat W E g w H F):bx g w:=S.sl.m
end

abbrev Ag:=List (Nat×SV)
def fV:Ag->Nat->Option SV
 | [],_=>none
 | (k,v)::s,t=>bif Nat.beq k t then some v else fV s t
def gC:List (Nat×HO)->Nat->Option HO
 | [],_=>none
 | (k,v)::s,t=>bif Nat.beq k t then some v else gC s t
def lJ:List HO->Nat->HO
 | [],_=>.gone
 | o::_,0=>o
 | _::r,i+1=>lJ r i
structure Bs where
 f:Ag
 h:List HO
structure Ov where
 f:Ag
 h:List (Nat×HO)
 n:Nat
def Bs.slot (b:Bs) (s:Ov) (t:Nat):Option SV:=match fV s.f t with
 | some v=>some v
 | none=>fV b.f t
def Bs.obj (b:Bs) (s:Ov) (l:Nat):HO:=match gC s.h l with
 | some o=>o
 | none=>lJ b.h l
def Bs.heap (b:Bs) (s:Ov):List HO:=(bN s.n).map (b.obj s)
def Ov.put (s:Ov) (d:Option Nat) (v:SV):Ov:=match d with
 | some t=> {s with f:=(t,v)::s.f}
 | none=>s
def Ov.dS (s:Ov) (l:Nat) (o:HO):Ov:= {s with h:=(l,o)::s.h}
def Ov.new (s:Ov) (o:HO):Ov:= {s with h:=(s.n,o)::s.h,n:=s.n+1}
def okB:Value->Bool
 | .int k n=>(Lit.int k n).wf
 | .string s=>decide (s.size<=maxLen)
 | v=>v.oneCell'
def ua:List Value->Option (List Cl)
 | []=>some []
 | v::r=>if okB v then (match ua r with| some l=>some (.k v::l)| none=>none) else none
def JB:Value->Option SV
 | .agg cs=>match ua cs.toList with
  | some l=>some (.v (.agg l))
  | none=>none
 | v=>if okB v then some (.k v) else none
def fe (b:Bs) (s:Ov):Operand->Option SV
 | .tmp t=>b.slot s t
 | .const v=>JB v
 | .func f=>some (.c (.fn f []))
 | .global _=>none
def br (c:Bool) (p q:Prop):Prop:=Bool.rec q p c
def mJ (a b:ByteArray):Bool:=a.toList==b.toList
def uB (a b:ByteArray):Bool:=Op.bytesLess a.toList b.toList
def arith (k:IntKind) (z:Int) (K:SV->Prop):Prop:=match k with
 | .i64=>aF .i64 z/\K (.int z)
 | k=>aF k (k.wrap z)->K (.k (.int k (k.wrap z)))
def dc (op:BinOp) (k:IntKind) (x y:Int):Int:=
 let a:=BitVec.ofInt k.bits x;let b:=BitVec.ofInt k.bits y
 k.wrap ((match op with
  | .and=>a&&& b
  | .or=>a||| b
  | .xor=>a ^^^ b
  | _=>a&&& ~~~b).toNat)
def Aj (k:IntKind) (x y:Int):Int:=k.wrap (x*2 ^ (min y.toNat k.bits))
def kD (k:IntKind) (x y:Int):Int:=x.fdiv (2 ^ (min y.toNat k.bits))
abbrev gk (T:List Int) (im:List UInt8) (s0 s1 s2 s3 s4 s5 s6 s7 s8 s9:Int) (pl ids:List Int) (nm:Int):HO:=.cells 90 [.de (.int .u32) T 0 0,.d .u8 im,.k (.int .i64 s0),.k (.int .i64 s1),.k (.int .i64 s2),.k (.int .i64 s3),.k (.int .i64 s4),.k (.int .i64 s5),.k (.int .i64 s6),.k (.int .i64 s7),.k (.int .i64 s8),.k (.int .i64 s9),.d (.int .i64) pl,.d (.int .i64) ids,.p 1 0,.p 2 0,.p 3 0,.m 4,.k (.int .i64 nm)]
abbrev wD (L:List bu) (ids:List Int):HO:=.cells 120 [.p 1 0,.p 2 0,.p 3 0,.d noTy L,.d (.int .i64) ids,.m 4,.m 5,.m 6]
abbrev wB (M:List (Int×Int)):HO:=.map 3 .int (.int .i64) M
abbrev kO (M:List (ByteArray×Int)):HO:=.map 9 .str (.int .i64) M
abbrev pS (a:Int):Int:=kD .u64 (IntKind.wrap .u64 a) 1
abbrev iy (a:Int):Int:=IntKind.wrap .i64 a
abbrev kQ:SV:=.v (.c (.k (.bool false)))
abbrev qK:SV:=.v (.c (.k (.bool true)))
abbrev bF:Ty:=.int .i64
abbrev bE:Ty:=.sl .u8
abbrev aL (n:Nat):Prop:=n<=9223372036854775807
abbrev fa (n:Nat):Prop:=n<=140737488355328
abbrev IJ:bu:=([],0,0,(0,0,0,()),[],ByteArray.mk #[],[],false,())
abbrev a7 {α:Type} (l:List α):Int:=(l.length:Int)
abbrev aE {α:Type} (l:List α):Int:=(l.length:Int)
abbrev ah:Int:=0
abbrev bd:Int:=1
abbrev di:Int:=2
abbrev lh:Int:=3
abbrev cC:Int:=4
abbrev iA:Int:=8
abbrev X7:Int:=16
abbrev gl:Int:=64
abbrev bG:Int:=128
abbrev fb:Int:=256
abbrev bD:Nat:=0
abbrev bJ:Nat:=1
abbrev bn:Nat:=2
abbrev eZ:Nat:=3
abbrev cU:Nat:=4
abbrev jY:Nat:=5
abbrev zL:Nat:=6
abbrev jX:Nat:=7
abbrev Gf:Nat:=8
abbrev iq:Nat:=9
abbrev ee:Nat:=64
abbrev gg:Nat:=128
abbrev bK:Nat:=256
def PE (op:BinOp) (k:IntKind) (x y:Int) (K:SV->Prop):Prop:=match op with
 | .add=>arith k (x+y) K
 | .sub=>arith k (x - y) K
 | .mul=>arith k (x*y) K
 | .quo=>y≠0/\arith k (x.tdiv y) K
 | .rem=>y≠0/\(aF k (x.tmod y)->K (.k (.int k (x.tmod y))))
 | .eql=>K (.bool (x==y))
 | .neq=>K (.bool (x !=y))
 | .lss=>K (.bool (decide (x< y)))
 | .leq=>K (.bool (decide (x<=y)))
 | .gtr=>K (.bool (decide (x>y)))
 | .geq=>K (.bool (decide (x≥y)))
 | .shl| .shr=>False
 | op=>aF k (dc op k x y)->K (.k (.int k (dc op k x y)))
def Uv (op:BinOp) (x y:ByteArray) (K:SV->Prop):Prop:=match op with
 | .add=>x.size+y.size<=9223372036854775807/\K (.str (x++y))
 | .eql=>K (.bool (mJ x y))
 | .neq=>K (.bool (!mJ x y))
 | .lss=>K (.bool (uB x y))
 | .leq=>K (.bool (uB x y|| mJ x y))
 | .gtr=>K (.bool (!(uB x y|| mJ x y)))
 | .geq=>K (.bool (!uB x y))
 | _=>False
inductive Nil
 | yes| no| may (p:Prop)| unknown
def Si (b:Bs) (s:Ov):Cl->Nil
 | .k (.pointer none)| .k (.slice none 0 0)| .k (.map none)| .k .nilFunc| .k .nilIface=>.yes
 | .p .. | .de .. | .oe .. | .m .. | .fn .. | .AM .. =>.no
 | .d _ x=>.may (x= [])
 | .o l=>match b.obj s l with
  | .sl _ _ x| .held _ _ x=>.may (x= [])
  | _=>.unknown
 | _=>.unknown
def Gk (d:Option TypeDesc) (y:Cl):Bool:=match d,y with
 | some (.pointer _),.k (.pointer none)=>true
 | some (.slice _),.k (.slice none 0 0)=>true
 | some (.map _ _),.k (.map none)=>true
 | some (.func _ _ _),.k .nilFunc=>true
 | some (.interface _),.k .nilIface=>true
 | _,_=>false
def Yo (d:Option TypeDesc) (y:Cl):Bool:=match d,y with
 | some (.pointer _),.k (.pointer none)| some (.pointer _),.p .. | some (.pointer _),.de .. | some (.pointer _),.oe .. =>true
 | some (.slice _),.k (.slice none 0 0)| some (.slice _),.d .. | some (.slice _),.o .. =>true
 | some (.map _ _),.k (.map none)| some (.map _ _),.m .. =>true
 | some (.func _ _ _),.k .nilFunc| some (.func _ _ _),.fn .. =>true
 | some (.interface _),.k .nilIface| some (.interface _),.AM .. =>true
 | _,_=>false
def isIface:Cl->Bool
 | .k .nilIface=>true
 | _=>false
def ade (b:Bs) (s:Ov) (Jx:Bool) (c:Cl) (eq:Bool) (K:SV->Prop):Prop:=match Si b s c with
 | .yes=>if isIface c&& !Jx then False else K (.bool eq)
 | .no=>K (.bool (!eq))
 | .may p=>∀ c:Bool,(c=true->p)->K (.bool (if eq then c else !c))
 | .unknown=>False
def isEq:BinOp->Option Bool
 | .eql=>some true
 | .neq=>some false
 | _=>none
def Ju (P:Program):(fuel:Nat)->List Field->List Cl->List Cl->Option Bool
 | 0,_,_,_=>none
 | _+1,[],_,_=>some true
 | d+1,f::fs,xs,ys=>if f.name != "_" then (match P.underlying f.type,P.info? f.type with
  | some (.int k0),some i=>if Nat.beq i.size 1 then (match xs[f.offset]?,ys[f.offset]? with
   | some (.k (.int k a)),some (.k (.int k' b))=>if IntKind.beq k0 k&& IntKind.beq k k' then (match Ju P d fs xs ys with
    | some r=>some ((a==b)&& r)
    | none=>none) else none
   | _,_=>none) else none
  | some .bool,some i=>if Nat.beq i.size 1 then (match xs[f.offset]?,ys[f.offset]? with
   | some (.k (.bool a)),some (.k (.bool b))=>(match Ju P d fs xs ys with
    | some r=>some ((a==b)&& r)
    | none=>none)
   | _,_=>none) else none
  | some .string,some i=>if Nat.beq i.size 1 then (match xs[f.offset]?,ys[f.offset]? with
   | some (.k (.string a)),some (.k (.string b))=>(match Ju P d fs xs ys with
    | some r=>some (mJ a b&& r)
    | none=>none)
   | _,_=>none) else none
  | some (.struct gs),some i=>if P.stoodInHeld f.type then none else (match Ju P d gs.toList ((xs.drop f.offset).take i.size) ((ys.drop f.offset).take i.size) with
   | some a=>(match Ju P d fs xs ys with
    | some r=>some (a&& r)
    | none=>none)
   | none=>none)
  | _,_=>none) else none
def Jh (wr:Bool) (op:BinOp) (k:IntKind) (x y:Int) (K:SV->Prop):Prop:=match wr with
 | true=>(match k,op with
  | .i64,.add=>aF .i64 (IntKind.wrap .i64 (x+y))->K (.int (IntKind.wrap .i64 (x+y)))
  | .i64,.sub=>aF .i64 (IntKind.wrap .i64 (x - y))->K (.int (IntKind.wrap .i64 (x - y)))
  | .i64,.mul=>aF .i64 (IntKind.wrap .i64 (x*y))->K (.int (IntKind.wrap .i64 (x*y)))
  | k,op=>PE op k x y K)
 | false=>PE op k x y K
def yP (k0:IntKind):List Cl->List Cl->Option Bool
 | [],[]=>some true
 | .k (.int k a)::l,.k (.int k' b)::m=>if IntKind.beq k0 k&& IntKind.beq k k' then (match yP k0 l m with
  | some r=>some ((a==b)&& r)
  | none=>none) else none
 | _,_=>none
def Zk (P:Program) (n:Nat) (e:TypeId) (l m:List Cl):Option Bool:=match P.underlying e,P.info? e with
 | some (.int k0),some i=>if Nat.beq i.size 1&& Nat.beq l.length n then yP k0 l m else none
 | _,_=>none
def El (wr:Bool) (P:Program) (b:Bs) (s:Ov) (Jx:Bool) (op:BinOp) (t:TypeId) (x y:SV) (K:SV->Prop):Prop:=match x,y with
 | .v (.c (.k (.int k m))),.v (.c (.k (.int k' n)))=>match op with
  | .shl=>0<=n/\(aF k (Aj k m n)->K (.k (.int k (Aj k m n))))
  | .shr=>0<=n/\(aF k (kD k m n)->K (.k (.int k (kD k m n))))
  | op=>if IntKind.beq k k' then Jh wr op k m n K else False
 | .v (.c (.k (.string m))),.v (.c (.k (.string n)))=>Uv op m n K
 | .v (.c (.k (.bool m))),.v (.c (.k (.bool n)))=>match P.underlying t,op with
  | some .bool,.eql=>K (.bool (m==n))
  | some .bool,.neq=>K (.bool (!(m==n)))
  | _,_=>False
 | .v (.agg l),.v (.agg m)=>match P.underlying t with
  | some (.struct fs)=>if P.eqGuardType P.depth t|| P.stoodInHeld t then False else (match isEq op,Ju P 9999 fs.toList l m with
   | some true,some r=>K (.bool r)
   | some false,some r=>K (.bool (!r))
   | _,_=>False)
  | some (.array n e)=>if P.eqGuardType P.depth t then False else (match isEq op,Zk P n e l m with
   | some true,some r=>K (.bool r)
   | some false,some r=>K (.bool (!r))
   | _,_=>False)
  | _=>False
 | .v (.c x),.v (.c y)=>match isEq op with
  | some e=>if Gk (P.underlying t) y&& Yo (P.underlying t) x then ade b s Jx x e K else if Gk (P.underlying t) x&& Yo (P.underlying t) y then ade b s Jx y e K else False
  | none=>False
 | _,_=>False
def unV (wr:Bool) (op:UnOp) (x:SV) (K:SV->Prop):Prop:=match op,x with
 | .not,.v (.c (.k (.bool b)))=>K (.bool (!b))
 | .neg,.v (.c (.k (.int k n)))=>Jh wr .sub k 0 n K
 | .xor,.v (.c (.k (.int k n)))=>aF k (dc .xor k (if k.signed then -1 else k.max) n)->K (.k (.int k (dc .xor k (if k.signed then -1 else k.max) n)))
 | _,_=>False
def pT (P:Program) (t:TypeId) (cs:List Cl) (off:Nat):Option S1:=match P.underlying t with
 | none=>none
 | some d=>if d.isRow then (match P.info? t with
   | some i=>if Nat.ble (off+i.size) cs.length then some (.agg ((cs.drop off).take i.size)) else none
   | none=>none)
  else match cs[off]? with
   | some c=>some (.c c)
   | none=>none
def nZ (P:Program) (t:TypeId):Option (List Cl):=match P.info? t with
 | some i=>match i.zero with
  | some z=>ua z.cells.toList
  | none=>none
 | none=>none
def L4 (P:Program) (t:TypeId):Option (Nat×IntKind):=match P.underlying t,P.info? t with
 | some (.array n e),some i=>(match P.underlying e,P.info? e with
  | some (.int k),some ie=>if gn 8 n&& (Nat.ble n 1000000&& (Nat.beq i.size n&& Nat.beq ie.size 1)) then some (n,k) else none
  | _,_=>none)
 | _,_=>none
def sJ (P:Program) (b:Bs) (s:Ov) (t:TypeId) (x:Cl) (K:SV->Prop):Prop:=match x with
 | .p l off=>match b.obj s l with
  | .cells _ cs=>match pT P t cs off with
   | some v=>K (.v v)
   | none=>False
  | _=>False
 | .kl l (.pointer (some ⟨bb,off,none⟩))=>match b.obj s l with
  | .ab (.pz _ _ e M _ _)=>∃ p,p∈M/\p.2.1=bb/\match pT P t (e.cells p.2.2) off with
   | some v=>e.ok p.2.2->K (.v v)
   | none=>False
  | _=>False
 | .de e x i off=>match pT P t (e.cells (aK e x i)) off with
  | some v=>e.ok (aK e x i)->K (.v v)
  | none=>False
 | .oe l sz i off=>match b.obj s l with
  | .sl _ e xs=>(match L4 P t with
   | some (n,k)=>(match zf (.int k) xs with
    | some ys=>if Nat.beq sz 1&& Nat.beq off 0 then (i=0/\ys.length=n/\K (.arr k ys)) else False
    | none=>False)
   | none=>if Nat.beq e.size sz then (0<=i/\i< xs.length/\match pT P t (e.cells (aK e xs i)) off with
    | some v=>e.ok (aK e xs i)->K (.v v)
    | none=>False) else False)
  | .qk (.sf _ e _ j o) n=>(match P.underlying t with
   | some (.slice _)=>if Nat.beq e.size sz&& Nat.beq off o then i=j/\K (.c (.o n)) else False
   | _=>False)
  | _=>False
 | _=>False
def LK (cs:List Cl) (off:Nat) (l:List Cl):List Cl:=cs.take off++(l++cs.drop (off+l.length))
def BF (P:Program) (b:Bs) (s:Ov) (t:TypeId) (x:Cl) (v:S1) (K:Ov->Prop):Prop:=match P.info? t with
 | none=>False
 | some i=>if Nat.beq v.cells.length i.size then match x with
  | .p l off=>match b.obj s l with
   | .cells u cs=>if Nat.ble (off+i.size) cs.length then K (s.dS l (.cells u (LK cs off v.cells))) else False
   | _=>False
  | .oe l sz i off=>match b.obj s l,v with
   | .sl u e xs,.c c=>if Nat.beq e.size sz&& gn off e.size then (0<=i/\i< xs.length/\match e.of ((e.cells (aK e xs i)).set off c) with
     | some (x',[])=>K (s.dS l (.sl u e (xs.set i.toNat x')))
     | _=>False) else False
   | .sl u e xs,.agg l'=>if Nat.beq e.size sz&& Nat.ble (off+l'.length) e.size then (0<=i/\i< xs.length/\match e.of (LK (e.cells (aK e xs i)) off l') with
     | some (x',[])=>K (s.dS l (.sl u e (xs.set i.toNat x')))
     | _=>False) else False
   | _,_=>False
  | _=>False
 else False
def tY (P:Program) (t:TypeId) (j:Nat):Option Field:=match P.underlying t with
 | some (.struct fs)=>fs[j]?
 | _=>none
def aas (x:Cl) (o:Nat):Option Cl:=match x with
 | .p l off=>some (.p l (off+o))
 | .de e x i off=>if Nat.ble (off+o) e.size then some (.de e x i (off+o)) else none
 | .oe l sz i off=>some (.oe l sz i (off+o))
 | .kl l (.pointer (some ⟨bb,off,none⟩))=>some (.kl l (.pointer (some ⟨bb,off+o,none⟩)))
 | _=>none
def Ea (P:Program) (b:Bs) (s:Ov) (t:TypeId) (x:Cl) (K:SV->Prop):Prop:=match P.underlying t,x with
 | some .string,.k (.string z)=>K (.int z.size)
 | some (.slice _),.k (.slice none 0 0)=>K (.int 0)
 | some (.map _ _),.k (.map none)=>K (.int 0)
 | some (.slice _),.d _ x=>x.length<=9223372036854775807->K (.int x.length)
 | some (.slice _),.sc _ _ n=>n<=9223372036854775807/\K (.int n)
 | some (.slice _),.o l=>match b.obj s l with
  | .sl _ _ xs| .held _ _ xs=>xs.length<=9223372036854775807->K (.int xs.length)
  | _=>False
 | some (.map k _),.m l=>match b.obj s l with
  | .map k' kk _ xs=>if Nat.beq k k'&& jT P k kk then (xs.length<=9223372036854775807->K (.int xs.length)) else False
  | .ab (.pm kt _ _ M)=>if Nat.beq k kt&& jT P k .int then (M.length<=9223372036854775807->K (.int M.length)) else False
  | _=>False
 | _,_=>False
def ia (P:Program) (b:Bs) (s:Ov) (t:TypeId) (x:Cl) (i:Int) (K:SV->Prop):Prop:=match P.underlying t with
 | some (.array n et)=>match P.info? et,x with
  | some ie,.p l off=>0<=i/\i< n/\K (.c (.p l (off+i.toNat*ie.size)))
  | some ie,.oe l sz j 0=>(match b.obj s l with
   | .sl _ e xs=>if Nat.beq e.size ie.size&& Nat.beq sz ie.size then (j=0/\0<=i/\i< n/\i< xs.length/\K (.c (.oe l e.size i 0))) else False
   | .held _ e xs=>if Nat.beq e.size ie.size&& Nat.beq sz ie.size then (j=0/\0<=i/\i< n/\i< xs.length/\K (.c (.de e xs i 0))) else False
   | _=>False)
  | some ie,.de e xs j 0=>if Nat.beq e.size ie.size then (j=0/\0<=i/\i< n/\i< xs.length/\K (.c (.de e xs i 0))) else False
  | _,_=>False
 | some (.slice et)=>match P.info? et with
  | none=>False
  | some ie=>match x with
   | .d e x=>if Nat.beq e.size ie.size then (0<=i/\i< x.length/\K (.c (.de e x i 0))) else False
   | .sc l off n=>0<=i/\i< n/\K (.c (.p l (off+i.toNat*ie.size)))
   | .o l=>match b.obj s l with
    | .sl _ e xs=>if Nat.beq e.size ie.size then (0<=i/\i< xs.length/\K (.c (.oe l e.size i 0))) else False
    | .held _ e xs=>if Nat.beq e.size ie.size then (0<=i/\i< xs.length/\K (.c (.de e xs i 0))) else False
    | _=>False
   | _=>False
 | _=>False
def cn:Option Int->Int->Int
 | none,n=>n
 | some l,_=>l
def Sb {α:Type} (x:List α) (lo hi:Option Int) (K:List α->Prop):Prop:=match lo,hi with
 | none,none=>K x
 | some l,none=>0<=l/\l<=x.length/\K (x.drop l.toNat)
 | none,some h=>0<=h/\h<=x.length/\K (x.take h.toNat)
 | some l,some h=>0<=l/\l<=h/\h<=x.length/\K ((x.drop l.toNat).take (h.toNat - l.toNat))
def Yd (lo hi:Option Int) (n:Int) (K:Int->Int->Prop):Prop:=match lo,hi with
 | none,none=>K 0 n
 | some l,none=>0<=l/\l<=n/\K l n
 | none,some h=>0<=h/\h<=n/\K 0 h
 | some l,some h=>0<=l/\l<=h/\h<=n/\K l h
theorem Mt {α:Type} {x:List α} {lo hi:Option Int} {K:List α->Prop} (h:Sb x lo hi K):0<=cn lo 0/\cn lo 0<=cn hi x.length/\cn hi x.length<=x.length/\K ((x.drop (cn lo 0).toNat).take ((cn hi x.length).toNat - (cn lo 0).toNat)):=by
 cases lo<;>cases hi
 .exact ⟨bz _,jv _,bz _,by
   show K ((x.drop 0).take ((x.length:Int).toNat - 0));rw [pD,aU,Nat.sub_zero,eN];exact h⟩
 .rename_i m;obtain ⟨h1,h2,h3⟩:=h;exact ⟨bz _,h1,h2,h3⟩
 .rename_i l;obtain ⟨h1,h2,h3⟩:=h;exact ⟨h1,h2,bz _,by
   show K ((x.drop l.toNat).take ((x.length:Int).toNat - l.toNat));rw [aU,aT (by rw [aN];exact ay _)];exact h3⟩
 .obtain ⟨h1,h2,h3,h4⟩:=h;exact ⟨h1,h2,h3,h4⟩
theorem Yc {lo hi:Option Int} {n:Nat} {K:Int->Int->Prop} (h:Yd lo hi n K):0<=cn lo 0/\cn lo 0<=cn hi n/\cn hi n<=n/\K (cn lo 0) (cn hi n):=by
 cases lo<;>cases hi;exact ⟨bz _,jv _,bz _,h⟩
 .obtain ⟨h1,h2,h3⟩:=h;exact ⟨bz _,h1,h2,h3⟩
 .obtain ⟨h1,h2,h3⟩:=h;exact ⟨h1,h2,bz _,h3⟩
 .obtain ⟨h1,h2,h3,h4⟩:=h;exact ⟨h1,h2,h3,h4⟩
def ph (P:Program) (b:Bs) (s:Ov) (t:TypeId) (x:Cl) (lo hi:Option Int) (K:SV->Prop):Prop:=match P.underlying t with
 | some .string=>match x with
  | .k (.string z)=>0<=cn lo 0/\cn lo 0<=cn hi z.size/\cn hi z.size<=z.size/\K (.str (z.extract (cn lo 0).toNat (cn hi z.size).toNat))
  | _=>False
 | some (.slice et)=>match P.info? et with
  | none=>False
  | some ie=>match x with
   | .d e x=>if Nat.beq e.size ie.size then Sb x lo hi λy=>K (.c (.d e y)) else False
   | .o q=>match b.obj s q with
    | .sl _ e x=>if Nat.beq e.size ie.size then Yd lo hi x.length λl h=>K (.c (.os q e.size l h)) else False
    | .held _ e x=>if Nat.beq e.size ie.size then Sb x lo hi λy=>K (.c (.d e y)) else False
    | _=>False
   | _=>False
 | some (.array n et)=>match P.info? et with
  | none=>False
  | some ie=>match x with
   | .p l off=>n<=9223372036854775807/\0<=cn lo 0/\cn lo 0< n/\cn lo 0<=cn hi n/\cn hi n<=n/\K (.c (.sc l (off+(cn lo 0).toNat*ie.size) ((cn hi n).toNat - (cn lo 0).toNat)))
   | _=>False
 | _=>False
def intOf (b:Option SV):Option (Option Int):=match b with
 | none=>some none
 | some (.v (.c (.k (.int .i64 n))))=>some (some n)
 | _=>none

abbrev Ct:=List SV->List HO->(SV->List HO->Prop)->Prop
def zP:List (Nat×Ct)->Nat->Ct
 | [],_=>λ_ _ _=>False
 | (k,c)::r,f=>bif Nat.beq k f then c else zP r f
mutual
def Cl.labels:Cl->List Nat
 | .p l _| .o l| .os l _ _ _| .oe l _ _ _| .m l| .sc l _ _| .kl l _=>[l]
 | .fn _ caps=>Cl.nH caps
 | .AM _ c=>c.labels
 | _=>[]
def Cl.nH:List Cl->List Nat
 | []=>[]
 | c::r=>c.labels++Cl.nH r
end
def S1.labels:S1->List Nat
 | .c x=>x.labels
 | .agg l=>Cl.nH l
def SV.labels:SV->List Nat
 | .v x=>x.labels
 | .cJ l=>l.flatMap S1.labels
 | .any=>[]
 | .arr _ _=>[]
def HO.labels:HO->List Nat
 | .cells _ cs=>Cl.nH cs
 | .qk _ n=>[n]
 | _=>[]
mutual
def Cl.fp (r:Nat->Option Nat):Cl->Cl
 | .p l off=>match r l with
  | some l'=>.p l' off
  | none=>.JX
 | .o l=>match r l with
  | some l'=>.o l'
  | none=>.JX
 | .os l sz lo hi=>match r l with
  | some l'=>.os l' sz lo hi
  | none=>.JX
 | .oe l sz i off=>match r l with
  | some l'=>.oe l' sz i off
  | none=>.JX
 | .m l=>match r l with
  | some l'=>.m l'
  | none=>.JX
 | .sc l off n=>match r l with
  | some l'=>.sc l' off n
  | none=>.JX
 | .fn f caps=>.fn f (Cl.wq r caps)
 | .AM t c=>.AM t (c.fp r)
 | .k v=>.k v
 | .d e x=>.d e x
 | .de e x i off=>.de e x i off
 | .kl l v=>match r l with
  | some l'=>.kl l' v
  | none=>.JX
 | .JX=>.JX
def Cl.wq (r:Nat->Option Nat):List Cl->List Cl
 | []=>[]
 | c::l=>c.fp r::Cl.wq r l
end
def S1.fp (r:Nat->Option Nat):S1->S1
 | .c x=>.c (x.fp r)
 | .agg l=>.agg (Cl.wq r l)
def S1.wq (r:Nat->Option Nat):List S1->List S1
 | []=>[]
 | a::l=>a.fp r::S1.wq r l
def SV.fp (r:Nat->Option Nat):SV->SV
 | .v x=>.v (x.fp r)
 | .cJ l=>.cJ (S1.wq r l)
 | .any=>.any
 | .arr k l=>.arr k l
def HO.fp (r:Nat->Option Nat):HO->HO
 | .cells t cs=>.cells t (Cl.wq r cs)
 | .qk k n=>match r n with
  | some n'=>.qk k n'
  | none=>.gone
 | o=>o
def hZ:Nat->List Nat->Bool
 | _,[]=>false
 | n,m::r=>bif Nat.beq n m then true else hZ n r
def nt:List Nat->Bool
 | []=>true
 | a::r=> !hZ a r&& nt r
def ic:List Nat->Nat->Option Nat
 | [],_=>none
 | m::r,n=>bif Nat.beq m n then some 0 else match ic r n with
  | some i=>some (i+1)
  | none=>none
def sb (ob:Nat->HO):Nat->List Nat->List Nat->List Nat
 | 0,_,done=>done
 | _+1,[],done=>done
 | f+1,l::r,done=>bif hZ l done then sb ob f r done else sb ob f ((ob l).labels++r) (done++ [l])
def pW:List SV->List Nat
 | []=>[]
 | v::r=>v.labels++pW r
def Ap (b:Bs) (s:Ov):List Operand->Option (List SV)
 | []=>some []
 | x::r=>match fe b s x with
  | some v=>match Ap b s r with
   | some l=>some (v::l)
   | none=>none
  | none=>none
def jZ (ls:List Nat) (n:Nat) (l:Nat):Option Nat:=match ls[l]? with
 | some m=>some m
 | none=>some (n+(l - ls.length))
def fq (ls0:List Nat) (n0:Nat):List Nat->List HO->Ov->Ov
 | _,[],s=>s
 | l::ls,o::H,s=>fq ls0 n0 ls H (s.dS l (o.fp (jZ ls0 n0)))
 | [],o::H,s=>fq ls0 n0 [] H (s.new (o.fp (jZ ls0 n0)))
def qS (P:Program) (f:FuncId):Bool:=match P.funcs[f]? with
 | some fn=> !(fn.name== "runtime.NumGoroutine")&& !fn.body.isNone
 | none=>false
def GP:Cl->Prop->Prop
 | .k (.int k n),p=>aF k n->p
 | .k (.string z),p=>z.size<=9223372036854775807->p
 | .d _ x,p=>x.length<=9223372036854775807->p
 | _,p=>p
def C8:List Cl->Prop->Prop
 | [],p=>p
 | c::r,p=>GP c (C8 r p)
def Ni:S1->Prop->Prop
 | .c c,p=>GP c p
 | .agg l,p=>C8 l p
def C6:List S1->Prop->Prop
 | [],p=>p
 | c::r,p=>Ni c (C6 r p)
def GM:SV->Prop->Prop
 | .v x,p=>Ni x p
 | .cJ l,p=>C6 l p
 | .any,p=>p
 | .arr _ _,p=>p
def PW:List SV->Prop->Prop
 | [],p=>p
 | c::r,p=>GM c (PW r p)
def Dk (ct:FuncId->Ct) (b:Bs) (s:Ov) (f:FuncId) (args:List SV) (K:SV->Ov->Prop):Prop:=
 let ls:=sb (b.obj s) 1000 (pW args) []
 if nt ls&& ls.all (λl=>gn l s.n) then
  ct f (args.map (·.fp (ic ls))) (ls.map λl=>(b.obj s l).fp (ic ls)) λr H'=>
   (if Nat.ble ls.length H'.length then GM r (K (r.fp (jZ ls s.n)) (fq ls s.n ls H' s)) else False)
 else False
def XO:Cl->Cl->Prop->Prop
 | .k v,.k v',p=>v=v'/\p
 | .o l,.o l',p=>if Nat.beq l l' then p else False
 | .p l o,.p l' o',p=>if Nat.beq l l'&& Nat.beq o o' then p else False
 | .kl l v,.kl l' v',p=>if Nat.beq l l' then v=v'/\p else False
 | .d e x,.d _ y,p=>match zf e y with
  | some y'=>x=y'/\p
  | none=>False
 | _,_,_=>False
def OH:List Cl->List Cl->Prop->Prop
 | [],[],p=>p
 | c::l,d::r,p=>XO c d (OH l r p)
 | _,_,_=>False
def XM:HO->HO->Prop->Prop
 | .cells t cs,.cells t' xC,p=>if Nat.beq t t' then OH cs xC p else False
 | .sl t e x,.sl t' _ x',p=>if Nat.beq t t' then (match zf e x' with
  | some y=>x=y/\p
  | none=>False) else False
 | .gone,.gone,p=>p
 | _,_,_=>False
def OG:List HO->List HO->Prop->Prop
 | [],[],p=>p
 | a::l,b::r,p=>XM a b (OG l r p)
 | _,_,_=>False
def Tc (ct:FuncId->Ct) (b:Bs) (s:Ov) (f:FuncId) (args:List SV) (K:SV->Ov->Prop):Prop:=
 let ls:=sb (b.obj s) 1000 (pW args) []
 if nt ls&& ls.all (λl=>gn l s.n&& (b.obj s l).labels.all λq=>hZ q ls) then
  ct f (args.map (·.fp (ic ls))) (ls.map λl=>(b.obj s l).fp (ic ls)) λr H'=>
   OG H' (ls.map λl=>(b.obj s l).fp (ic ls)) (GM r (K (r.fp (jZ ls s.n)) s))
 else False
structure Vx where
 P:Program
 ct:List (Nat×Ct)
 ty:List (Nat×Ty)
 /-- Which aiv arguments are held from then on. -/
 hold:List Nat:=[]
 /-- Which functions leave the objects that they are given. -/
 ro:List Nat:=[]
 wrap:Bool:=false
 /-- Which loops are gone through round by round, and how often at most. -/
 unr:List (Nat×Nat):=[]
 /-- Is what is out put back at the end, and at heads? -/
 clo:Bool:=false
 cloH:Bool:=false
 /-- The types of maps of records: the record's type, and what it is. -/
 pmT:List (Nat×Nat×Ty):=[]
 /-- The literals of slices.Chunk, and their elements. -/
 chk:List (Nat×Ty):=[]
 /-- Is a slice of one's own laid into another one's element without being held (until the loop behind that)? -/
 sfh:Bool:=false
 /-- Are slices that are made held at once? -/
 mkd:Bool:=false
def ae4:List (Nat×Nat)->Nat->Option Nat
 | [],_=>none
 | (k,v)::s,t=>bif Nat.beq k t then some v else ae4 s t
def Gs:List (Nat×Ty)->Nat->Option Ty
 | [],_=>none
 | (k,v)::s,t=>bif Nat.beq k t then some v else Gs s t
def HH (off:Nat) (cs:List Cl):Ty:=match cs[off]? with
 | some (.k (.int .u8 _))=>.u8
 | some (.k (.int k _))=>.int k
 | _=>.str
def UD (e:Ty):(off n:Nat)->List Cl->Option (List e.den)
 | 0,0,_=>some []
 | 0,n+1,c::r=>match e.of [c] with
  | some (z,[])=>match UD e 0 n r with
   | some l=>some (z::l)
   | none=>none
  | _=>none
 | off+1,n,_::r=>UD e off n r
 | _,_,[]=>none
def kW (b:Bs):List Cl->Ov->(List Cl->Ov->Prop)->Prop
 | []=>λs k=>k [] s
 | c::r=>λs k=>match c with
  | .o l=>(match b.obj s l with
   | .sl t e xs=>kW b r (s.dS l (.held t e xs)) λr' s'=>k (.d e xs::r') s'
   | .held _ e xs=>kW b r s λr' s'=>k (.d e xs::r') s'
   | _=>False)
  | .sc l off n=>(match b.obj s l with
   | .cells _ cs=>if Nat.beq (HH off cs).size 1 then (match UD (HH off cs) off n cs with
    | some zs=>kW b r (s.dS l .gone) λr' s'=>k (.d (HH off cs) zs::r') s'
    | none=>False) else False
   | _=>False)
  | .oe l sz i off=>(match b.obj s l with
   | .sl t e xs=>if Nat.beq e.size sz&& Nat.ble off e.size then (0<=i/\i< xs.length/\kW b r (s.dS l (.held t e xs)) λr' s'=>k (.de e xs i off::r') s') else False
   | .held _ e xs=>if Nat.beq e.size sz&& Nat.ble off e.size then (0<=i/\i< xs.length/\kW b r s λr' s'=>k (.de e xs i off::r') s') else False
   | _=>False)
  | .os l sz lo hi=>(match b.obj s l with
   | .sl t e xs=>if Nat.beq e.size sz then (0<=lo/\lo<=hi/\hi<=xs.length/\kW b r (s.dS l (.held t e xs)) λr' s'=>k (.d e ((xs.drop lo.toNat).take (hi.toNat - lo.toNat))::r') s') else False
   | .held _ e xs=>if Nat.beq e.size sz then (0<=lo/\lo<=hi/\hi<=xs.length/\kW b r s λr' s'=>k (.d e ((xs.drop lo.toNat).take (hi.toNat - lo.toNat))::r') s') else False
   | _=>False)
  | c=>kW b r s λr' s'=>k (c::r') s'
def vF (b:Bs):List SV->Ov->(List SV->Ov->Prop)->Prop
 | []=>λs k=>k [] s
 | v::r=>λs k=>match v with
  | .v (.c c)=>kW b [c] s λcs s=>match cs with
   | [c']=>vF b r s λr' s'=>k (.v (.c c')::r') s'
   | _=>False
  | .v (.agg l)=>kW b l s λcs s=>vF b r s λr' s'=>k (.v (.agg cs)::r') s'
  | v=>vF b r s λr' s'=>k (v::r') s'
def sK (b:Bs) (s:Ov) (e:Ty) (x:Cl):Option (List e.den):=match x with
 | .k (.slice none 0 0)=>some []
 | .d _ xs=>zf e xs
 | .o l=>match b.obj s l with
  | .sl _ _ xs| .held _ _ xs=>zf e xs
  | _=>none
 | _=>none
def XC (b:Bs) (s:Ov) (e:Ty) (x:Cl) (K:List e.den->Prop):Prop:=match x with
 | .os q sz lo hi=>match b.obj s q with
  | .sl _ e' xs=>if Nat.beq e'.size sz then (0<=lo/\lo<=hi/\hi<=xs.length/\match zf e ((xs.drop lo.toNat).take (hi.toNat - lo.toNat)) with
   | some ys=>K ys
   | none=>False) else False
  | _=>False
 | x=>match sK b s e x with
  | some ys=>K ys
  | none=>False
def MA (e:Ty):Nat->List Cl->Option (List e.den)
 | 0,[]=>some []
 | 0,_=>none
 | n+1,l=>match e.of l with
  | some (x,r)=>match MA e n r with
   | some xs=>some (x::xs)
   | none=>none
  | none=>none
def No (X:Vx) (t:TypeId):Option (TypeId×Ty×TypeInfo):=match X.P.underlying t with
 | some (.slice et)=>match X.P.info? et,Gs X.ty et with
  | some ie,some e=>if Nat.beq e.size ie.size then some (et,e,ie) else none
  | _,_=>none
 | _=>none
def TJ (X:Vx) (et:TypeId) (e:Ty):Bool:=match X.P.info? et with
 | some ie=>gn 0 e.size&& (match ie.zero with
  | some z=>Nat.beq z.cells.size e.size
  | none=>false)
 | none=>false
def MS (X:Vx) (et:TypeId):Bool:=match X.P.info? et with
 | some ie=>Nat.beq ie.size 1&& (match ie.zero with
  | some (.int .u8 0)=>Nat.beq ie.bytes 1
  | _=>false)
 | none=>false
def JP (X:Vx) (b:Bs) (s:Ov) (t t2:TypeId) (x y:Cl) (K:SV->Ov->Prop):Prop:=match X.P.underlying t,X.P.underlying t2,y with
 | some (.slice et),some .string,.k (.string z)=>if MS X et then (match x with
  | .k (.slice none 0 0)=>z.size<=140737488355328/\K (.c (.o s.n)) (s.new (.sl et .u8 z.data.toList))
  | .o l=>match b.obj s l with
   | .sl Ol _ xs=>if Nat.beq Ol et then (match zf .u8 xs with
    | some xs=>xs.length+z.size<=140737488355328/\K (.c (.o s.n)) ((s.dS l .gone).new (.sl et .u8 (xs++z.data.toList)))
    | none=>False) else False
   | _=>False
  | _=>False) else False
 | _,_,_=>False
def JO (X:Vx) (b:Bs) (s:Ov) (t t2:TypeId) (x y:Cl) (K:SV->Ov->Prop):Prop:=match No X t with
 | none=>False
 | some (et,e,ie)=>if Nat.beq t t2 then (XC b s e y λys=>match x with
   | .k (.slice none 0 0)=>if TJ X et e then ys.length*ie.bytes<=140737488355328/\K (.c (.o s.n)) (s.new (.sl et e ys)) else False
   | .o l=>match b.obj s l with
    | .sl Ol _ xs=>if Nat.beq Ol et then (match zf e xs with
     | some xs=>if TJ X et e then (xs.length+ys.length)*ie.bytes<=140737488355328/\xs.length+ys.length<=9223372036854775807/\K (.c (.o s.n)) ((s.dS l .gone).new (.sl et e (xs++ys))) else False
     | none=>False) else False
    | _=>False
   | _=>False) else JP X b s t t2 x y K
def zX (place:Nat->Option (Nat×Nat)):List Cl->List (Nat×S1)->Option (List Cl)
 | cs,[]=>some cs
 | cs,(i,v)::r=>match place i with
  | none=>none
  | some (off,size)=>if Nat.beq v.cells.length size then (if Nat.ble (off+size) cs.length then zX place (LK cs off v.cells) r else none) else none
def sH (b:Bs) (s:Ov):List (Nat×Operand)->Option (List (Nat×S1))
 | []=>some []
 | (i,x)::r=>match fe b s x with
  | some (.v v)=>match sH b s r with
   | some l=>some ((i,v)::l)
   | none=>none
  | _=>none
def vP (P:Program) (t:TypeId) (ps:List (Nat×S1)) (K:SV->Prop):Prop:=match nZ P t with
 | none=>False
 | some z=>match P.underlying t with
  | some (.struct fs)=>match fs.toList.mapM λf=>(P.info? f.type).map λi=>(f.offset,i.size) with
   | some places=>match zX (λi=>places.toArray[i]?) z ps with
    | some cs=>K (.v (.agg cs))
    | none=>False
   | none=>False
  | some (.array _ e)=>match P.info? e with
   | some ie=>match zX (λi=>some (i*ie.size,ie.size)) z ps with
    | some cs=>K (.v (.agg cs))
    | none=>False
   | none=>False
  | _=>False
def Dy (X:Vx) (s:Ov) (t:TypeId) (n:Nat) (ps:List (Nat×S1)) (K:SV->Ov->Prop):Prop:=match X.P.underlying t with
 | some (.slice et)=>match X.P.info? et,nZ X.P et with
  | some ie,some z=>if Nat.ble (n*ie.size) 16777216&& (gn 0 ie.size&& gn 0 n)&& Nat.beq z.length ie.size then (match zX (λi=>some (i*ie.size,ie.size)) (av n z).flatten ps with
   | none=>False
   | some cs=>K (.c (.sc s.n 0 n)) (s.new (.cells et cs))) else False
  | _,_=>False
 | _=>False
def ta (X:Vx) (b:Bs) (s:Ov) (t:TypeId) (n:Nat) (ps:List (Nat×S1)) (K:SV->Ov->Prop):Prop:=match No X t with
 | none=>Dy X s t n ps K
 | some (et,e,ie)=>match nZ X.P et with
  | none=>False
  | some z=>if Nat.ble (n*ie.size) 16777216&& (gn 0 ie.size|| Nat.beq n 0)&& Nat.beq z.length ie.size then (match zX (λi=>some (i*ie.size,ie.size)) (av n z).flatten ps with
   | none=>False
   | some cs=>kW b cs s λxC s'=>match MA e n xC with
    | some xs=>K (.c (.o s'.n)) (s'.new (.sl et e xs))
    | none=>False) else False
def adj (X:Vx) (b:Bs) (s:Ov) (src dst e:TypeId) (l:Nat) (K:SV->Ov->Prop):Prop:=if Nat.beq src dst then (match X.P.underlying e with
 | some (.int .u8)=>match b.obj s l with
  | .sl et _ xs=>if Nat.beq et e then (match zf .u8 xs with
   | some ys=>ys≠ []/\K (.c (.d .u8 ys)) (s.dS l .gone)
   | none=>False) else False
  | _=>False
 | _=>False) else False
def widens:IntKind->IntKind->Bool
 | .u8,.i64| .u8,.u32| .u32,.i64| .i32,.i64=>true
 | _,_=>false
theorem Es {k' k:IntKind} {n:Int} (h:widens k' k=true) (hn:aF k' n):aF k n:=by
 cases k'<;>cases k<;>first| (cases h;done)| (unfold aF at hn ⊢;omega)
def oH (X:Vx) (b:Bs) (s:Ov) (src dst:TypeId) (x:SV) (K:SV->Ov->Prop):Prop:=match X.P.underlying src,X.P.underlying dst,x with
 | some (.int _),some (.int k),.v (.c (.k (.int k' n)))=>if IntKind.beq k k' then K x s else if widens k' k then K (.k (.int k n)) s else (aF k (k.wrap n)->K (.k (.int k (k.wrap n))) s)
 | some .string,some .string,.v (.c (.k (.string _)))=>K x s
 | some (.int _),some .string,.v (.c (.k (.int _ n)))=>(Utf8.encode n).size<=9223372036854775807/\K (.str (Utf8.encode n)) s
 | some .string,some (.slice e),.v (.c (.k (.string z)))=>match X.P.underlying e with
  | some (.int .u8)=>K (.c (.d .u8 z.data.toList)) s
  | _=>False
 | some (.slice e),some .string,.v (.c y)=>match X.P.underlying e with
  | some (.int .u8)=>match sK b s .u8 y with
   | some l=>K (.str (fD l)) s
   | none=>False
  | _=>False
 | some (.slice _),some (.slice e),.v (.c (.o l))=>adj X b s src dst e l K
 | _,_,_=>False
def kh:Nat->Ty
 | 0=>.unit
 | n+1=>.pair .u8 (kh n)
def rowOf (ys:List UInt8):(n i:Nat)->(kh n).den
 | 0,_=>()
 | n+1,i=>(ys.getD i 0,rowOf ys n (i+1))
def JN (P:Program) (t:TypeId) (x:Cl) (K:SV->Prop):Prop:=match P.underlying t,x with
 | some (.array n _),.d e xs=>(match zf .u8 xs with
  | some ys=>if gn 0 n&& Nat.ble n 8 then n<=ys.length/\K (.c (.de (kh n) [rowOf ys n 0] 0 0)) else False
  | none=>False)
 | _,_=>False
def HJ (P:Program) (t:TypeId) (x:Cl) (lo hi:Option Int) (m:Int) (K:SV->Prop):Prop:=match P.underlying t,x,hi with
 | some (.slice et),.d e xs,some h=>(match P.info? et with
  | some ie=>if Nat.beq e.size ie.size then 0<=cn lo 0/\cn lo 0<=h/\h<=m/\m<=xs.length/\K (.c (.d e ((xs.drop (cn lo 0).toNat).take (h.toNat - (cn lo 0).toNat)))) else False
  | none=>False)
 | _,_,_=>False
def mmV (mn:Bool) (x y:SV) (K:SV->Prop):Prop:=match x,y with
 | .v (.c (.k (.int k m))),.v (.c (.k (.int k' n)))=>if IntKind.beq k k' then (match mn with| true=>K (.k (.int k (min m n)))| false=>K (.k (.int k (max m n)))) else False
 | _,_=>False
def ahR (P:Program) (t:TypeId):Option Kk:=match P.underlying t with
 | some (.int .i64)=>some .int
 | some .string=>some .str
 | _=>none
def dTy (X:Vx) (t:TypeId):Option Ty:=match X.P.underlying t with
 | some (.int k)=>some (.int k)
 | some .string=>some .str
 | some .bool=>some .bool
 | _=>Gs X.ty t
def zOk (e:Ty) (z:Value):Bool:=match z with
 | .agg _=>e.row
 | v=> !e.row&& v.oneCell'
def aiC (P:Program) (t:TypeId) (e:Ty):Option e.den:=match P.info? t with
 | some i=>match i.zero with
  | some z=>if zOk e z then (match ua z.cells.toList with
   | some zl=>match e.of zl with
    | some (x,[])=>some x
    | _=>none
   | none=>none) else none
  | none=>none
 | none=>none
def wT:(k:Kk)->Cl->Option k.den
 | .int,c=>match c with
  | .k (.int .i64 n)=>some n
  | _=>none
 | .str,c=>match c with
  | .k (.string z)=>some z
  | _=>none
def ahB (e:Ty) (x:e.den):Option S1:=if e.row then some (.agg (e.cells x)) else match e.cells x with
 | [c]=>some (.c c)
 | _=>none
def akH (e:Ty):S1->Bool
 | .agg _=>e.row
 | .c _=> !e.row
def I0 (P:Program) (t:TypeId):Bool:=match P.info? t with
 | some i=>match i.zero with
  | some (.pointer none)=>true
  | _=>false
 | none=>false
def XX (u:S1) (cs:List Cl):S1:=match u,cs with
 | .c _,[d]=>.c d
 | _,_=>.agg cs
def TF (M:ur) (o:Option (Nat×Value)) (key:K3) (ys:List Int):ur:=match o with
 | some (i,v)=>M.set i (key,v,ys)
 | none=>M
def aak:HK->HO->Option HO
 | .ch kt tI M o key none,.sl t _ xs=>if Nat.beq t tI then (match zf (.int .i64) xs with
  | some ys=>some (.ab (.ch kt tI (TF M o key ys)))
  | none=>none) else none
 | .pm kt tR e M i key bb,.cells t cs=>if Nat.beq t tR then (match e.of cs with
  | some (x,[])=>some (.ab (.pm kt tR e (M.set i (key,bb,x))))
  | _=>none) else none
 | _,_=>none
def Qa (b:Bs) (s:Ov) (l:Nat):Ov:=match b.obj s l with
 | .qk k n=>if Nat.beq n l then s else (match aak k (b.obj s n) with
  | some o'=>(s.dS n .gone).dS l o'
  | none=>s)
 | _=>s
def Qb (b:Bs):List Nat->Ov->Ov
 | [],s=>s
 | l::r,s=>Qb b r (Qa b s l)
def Df (c:Bool) (b:Bs) (s:Ov):Ov:=match c with
 | true=>Qb b (bN s.n) s
 | false=>s
def ado:List Cl->Option K3
 | [.k (.int .u8 x),.k (.int .u8 y),.k (.int .u8 z)]=>some (az x.toNat,az y.toNat,az z.toNat)
 | _=>none
inductive FindM (M:ur) (key:K3):Option (Nat×Value)->List Int->Prop
 | at (i:Nat) (v:Value) (xs:List Int) (h:M[i]?=some (key,v,xs)):FindM M key (some (i,v)) xs
 | no (h:∀ p∈M,p.1≠key):FindM M key none []
def HL (P:Program) (t tI:TypeId):Bool:=match P.underlying t,P.info? t with
 | some (.slice q),some i=>Nat.beq q tI&& (match i.zero with
  | some (.slice none 0 0)=>true
  | _=>false)
 | _,_=>false
def JD (X:Vx) (b:Bs) (s:Ov) (t:TypeId) (mx:Cl) (cs:List Cl) (K:SV->Ov->Prop):Prop:=match X.P.underlying t,mx with
 | some (.map k et),.m l=>match b.obj s l,ado cs with
  | .ab (.ch kt tI M),some key=>if Nat.beq k kt&& (wU X.P k&& HL X.P et tI) then (∀ o xs,FindM M key o xs->K (.c (.o s.n)) ((s.dS l (.qk (.ch kt tI M o key none) s.n)).new (.sl tI (.int .i64) xs))) else False
  | _,_=>False
 | _,_=>False
def Qe (X:Vx) (b:Bs) (s:Ov) (t:TypeId) (mx:Cl) (cs:List Cl) (K:SV->Ov->Prop):Prop:=match X.P.underlying t,mx with
 | some (.map k et),.m l=>match b.obj s l,ado cs with
  | .ab (.ch kt tI M),some key=>if Nat.beq k kt&& (wU X.P k&& HL X.P et tI) then (M.length< 9223372036854775807/\∀ o xs (st:Nat),FindM M key o xs->K (.cJ [.c (.o s.n),.c (.kl l (.int .i64 st))]) ((s.dS l (.qk (.ch kt tI M o key (some st)) s.n)).new (.sl tI (.int .i64) xs))) else False
  | _,_=>False
 | _,_=>False
def HZ (M:ur) (o:Option (Nat×Value)):ur:=match o with
 | some (i,_)=>M.eraseIdx i
 | none=>M
def Qd (P:Program) (b:Bs) (s:Ov) (t:TypeId) (l:Nat) (st:Cl) (u:S1) (K:Ov->Prop):Prop:=match b.obj s l,st,u with
 | .qk (.ch kt tI M o key (some n)) _,.kl _ (.int .i64 x),.c (.o q)=>(match b.obj s q,P.underlying t with
  | .sl t' _ xs,some (.map k _)=>if Nat.beq t' tI&& (!Nat.beq q l&& (Nat.beq k kt&& wU P k)) then (match zf (.int .i64) xs with
   | some ys=>x=n/\∀ v,K ((s.dS q .gone).dS l (.ab (.ch kt tI ((key,v,ys)::HZ M o))))
   | none=>False) else False
  | _,_=>False)
 | _,_,_=>False
def IK (X:Vx) (s:Ov) (t:TypeId) (l:Nat) (kt tR:TypeId) (e:Ty) (M:List (Int×Nat×e.den)) (ky:Cl) (K:SV->Ov->Prop):Prop:=match X.P.underlying t,ky with
 | some (.map k et),.k (.int .i64 q)=>if Nat.beq k kt&& (jT X.P k .int&& I0 X.P et) then
   ((∀ p∈M,p.1≠q)->K (.cJ [.c (.k (.pointer none)),.c (.k (.bool false))]) s)/\
   ∀ (i bb:Nat) (x:e.den),M[i]?=some (q,bb,x)->e.ok x->K (.cJ [.c (.p s.n 0),.c (.k (.bool true))]) ((s.dS l (.qk (.pm kt tR e M i q bb) s.n)).new (.cells tR (e.cells x)))
  else False
 | _,_=>False
def Pb (X:Vx) (b:Bs) (s:Ov) (t:TypeId) (l:Nat) (kt tR:TypeId) (e:Ty) (M:List (Int×Nat×e.den)) (ky:Cl) (u:S1) (K:Ov->Prop):Prop:=match X.P.underlying t,ky,u with
 | some (.map k _),.k (.int .i64 q),.c (.p n 0)=>(match b.obj s n with
  | .cells tR' _=>if Nat.beq k kt&& (jT X.P k .int&& (Nat.beq tR' tR&& !Nat.beq n l)) then
    (∀ p∈M,p.1≠q)/\M.length< 9223372036854775807/\∀ bb,K (s.dS l (.qk (.pm kt tR e ((q,bb,e.Nr)::M) 0 q bb) n))
   else False
  | _=>False)
 | _,_,_=>False
structure PmR where
 kt:TypeId
 tR:TypeId
 e:Ty
 M:List (Int×Nat×e.den)
def BL (P:Program) (b:Bs) (s:Ov) (t:TypeId) (l sz:Nat) (i:Int) (off q:Nat) (K:Ov->Prop):Prop:=match P.info? t,b.obj s l,b.obj s q with
 | some ie,.sl u e xs,.sl .. =>if Nat.beq ie.size 1&& (Nat.beq e.size sz&& (gn off e.size&& !Nat.beq q l)) then (0<=i/\i< xs.length/\K (s.dS l (.qk (.sf u e xs i off) q))) else False
 | _,_,_=>False
def Qc (b:Bs) (s:Ov) (l:Nat):Ov:=match b.obj s l with
 | .qk (.sf t e xs i off) n=>if Nat.beq n l then s else (match b.obj s n with
  | .sl t' e' ys=>(match e.of ((e.cells (aK e xs i)).set off (.d e' ys)) with
   | some (x',[])=>(s.dS n (.held t' e' ys)).dS l (.sl t e (xs.set i.toNat x'))
   | _=>s)
  | _=>s)
 | _=>s
def JC (b:Bs):List Nat->Ov->Ov
 | [],s=>s
 | l::r,s=>JC b r (Qc b s l)
def Zw (c:Bool) (b:Bs) (s:Ov):Ov:=match c with
 | true=>JC b (bN s.n) s
 | false=>s
def ac0 (b:Bs) (s:Ov):Cl->Option (Nat×PmR)
 | .m l=>match b.obj s l with
  | .ab (.pm kt tR e M)=>some (l,⟨kt,tR,e,M⟩)
  | _=>none
 | _=>none
def Yz:List (Nat×Nat×Ty)->Nat->Option (Nat×Ty)
 | [],_=>none
 | (k,v)::s,t=>bif Nat.beq k t then some v else Yz s t
def Jb (X:Vx) (b:Bs) (s:Ov) (t:TypeId) (mx ky:Cl) (c:Bool) (K:SV->Prop):Prop:=match X.P.underlying t with
 | some (.map k et)=>match mx with
  | .m l=>match b.obj s l with
   | .map k' kk e xs=>if Nat.beq k k'&& jT X.P k kk then (match aiC X.P et e,wT kk ky with
    | some z,some q=>match ahB e ((kk.get xs q).getD z) with
     | some r=>e.ok ((kk.get xs q).getD z)->K (if c then .cJ [r,.c (.k (.bool (kk.get xs q).isSome))] else .v r)
     | none=>False
    | _,_=>False) else False
   | _=>False
  | _=>False
 | _=>False
def wM (X:Vx) (b:Bs) (s:Ov) (t:TypeId) (mx ky:Cl) (v:S1) (K:Ov->Prop):Prop:=match X.P.underlying t with
 | some (.map k _)=>match mx with
  | .m l=>kW b v.cells s λcs s1=>match b.obj s1 l with
   | .map k' kk e xs=>if Nat.beq k k'&& jT X.P k kk&& akH e v then (match wT kk ky,e.of cs with
    | some q,some (x,[])=>xs.length< 9223372036854775807/\K (s1.dS l (.map k' kk e (kk.put xs q x)))
    | _,_=>False) else False
   | _=>False
  | _=>False
 | _=>False
def CI (X:Vx) (s:Ov) (t:TypeId) (K:SV->Ov->Prop):Prop:=match X.P.underlying t with
 | some (.map k et)=>match ahR X.P k,dTy X et with
  | some kk,some e=>K (.c (.m s.n)) (s.new (.map k kk e []))
  | _,_=>(match wU X.P k,X.P.underlying et with
    | true,some (.slice q)=>K (.c (.m s.n)) (s.new (.ab (.ch k q [])))
    | _,_=>match Yz X.pmT t with
     | some (tR,e)=>if jT X.P k .int then K (.c (.m s.n)) (s.new (.ab (.pm k tR e []))) else False
     | none=>False)
 | _=>False
def zeroV (P:Program) (t:TypeId):Option SV:=match P.info? t with
 | some i=>match i.zero with
  | some z=>JB z
  | none=>none
 | none=>none
def PF (P:Program) (t:TypeId) (c:Cl) (K:SV->Prop):Prop:=match P.underlying t with
 | some (.interface _)=>False
 | some _=>K (.c (.AM t c))
 | none=>False
def JL (P:Program) (t:TypeId) (c:Cl) (K:SV->Prop):Prop:=match P.underlying t with
 | some (.interface _)=>False
 | some _=>match c with
  | .AM t' c'=>if Nat.beq t' t then K (.cJ [.c c',.c (.k (.bool true))]) else (match zeroV P t with
   | some (.v z)=>K (.cJ [z,.c (.k (.bool false))])
   | _=>False)
  | .k .nilIface=>match zeroV P t with
   | some (.v z)=>K (.cJ [z,.c (.k (.bool false))])
   | _=>False
  | _=>False
 | none=>False
def JM (P:Program) (t:TypeId) (c:Cl) (K:SV->Prop):Prop:=match P.underlying t with
 | some (.interface _)=>False
 | some _=>match c with
  | .AM t' c'=>if Nat.beq t' t then K (.c c') else False
  | _=>False
 | none=>False
def OU (X:Vx) (b:Bs) (s:Ov) (t:TypeId) (c:Cl) (K:SV->Ov->Prop):Prop:=match X.P.underlying t,c with
 | some .string,.k (.string z)=>K (.c (.p s.n 0)) (s.new (.ab (.iter z 0)))
 | some (.map k _),.m l=>match b.obj s l with
  | .ab (.pm kt tR e M)=>if Nat.beq k kt&& jT X.P k .int then ∀ hz mb,K (.c (.p s.n 0)) ((s.dS l (.ab (.pz kt tR e M hz mb))).new (.ab (.Pd kt l e hz mb M none))) else False
  | _=>False
 | _,_=>False
def Yt (b:Bs) (s:Ov) (c:Cl) (K:SV->Ov->Prop):Prop:=match c with
 | .p l 0=>match b.obj s l with
  | .ab (.iter z p)=>br (decide (p< z.size)) (K (.cJ [.c (.k (.bool true)),.c (.k (.int .i64 p)),.c (.k (.int .i32 (Utf8.decode z p).1))]) (s.dS l (.ab (.iter z (p+(Utf8.decode z p).2))))) (K (.cJ [.c (.k (.bool false))]) s)
  | _=>False
 | _=>False
def Yu (P:Program) (b:Bs) (s:Ov) (c:Cl) (K:SV->Ov->Prop):Prop:=match c with
 | .p li 0=>match b.obj s li with
  | .ab (.Pd kt l e hz mb left _)=>match b.obj s l with
   | .ab (.pz kt' _ _ _ SH Oe)=>if Nat.beq kt kt'&& jT P kt .int then SH=hz/\Oe=mb/\(left= []->K (.cJ [.c (.k (.bool false))]) s)/\
     ∀ x bb y mC,left.Perm ((x,bb,y)::mC)->aF .i64 x->K (.cJ [.c (.k (.bool true)),.c (.k (.int .i64 x)),.c (.kl l (.pointer (some ⟨bb,0,none⟩)))]) (s.dS li (.ab (.Pd kt l e hz mb mC (some (x,bb,y))))) else False
   | _=>False
  | _=>False
 | _=>False
def P0 (P:Program) (b:Bs) (s:Ov) (c:Cl) (K:SV->Prop):Prop:=match c with
 | .p li 0=>match b.obj s li with
  | .ab (.Pd kt l _ hz mb _ cur)=>match b.obj s l with
   | .ab (.pz kt' _ _ _ SH Oe)=>if Nat.beq kt kt'&& jT P kt .int then ∃ x bb y,SH=hz/\Oe=mb/\cur=some (x,bb,y)/\(aF .i64 x->K (.cJ [.c (.k (.int .i64 x)),.c (.kl l (.pointer (some ⟨bb,0,none⟩)))])) else False
   | _=>False
  | _=>False
 | _=>False
def pE (k:IntKind):Nat->List Cl->Bool
 | 0,[]=>true
 | n+1,.k (.int k' 0)::r=>IntKind.beq k' k&& pE k n r
 | _,_=>false
def zg (P:Program) (b:Bs) (s:Ov) (t:TypeId) (x:Cl) (k:IntKind) (l:List Int) (K:Ov->Prop):Prop:=match L4 P t,x with
 | some (n,k'),.oe lb sz i 0=>(match b.obj s lb with
  | .sl u e xs=>if IntKind.beq k k'&& (Nat.beq sz 1&& Nat.beq u t) then (match zf (.int k) xs with
   | some ys=>i=0/\ys.length=n/\l.length=n/\K (s.dS lb (.sl u (.int k) l))
   | none=>False) else False
  | _=>False)
 | _,_=>False
def vA (X:Vx) (s:Ov) (t:TypeId) (c d:Cl) (K:SV->Ov->Prop):Prop:=match X.P.underlying t,c,d with
 | some (.slice et),.k (.int .i64 n),.k (.int .i64 m)=>if MS X et then n=m/\0<=n/\n<=140737488355328/\(match X.mkd with
  | true=>K (.c (.o s.n)) (s.new (.held et .u8 (av n.toNat 0)))
  | false=>K (.c (.o s.n)) (s.new (.sl et .u8 (av n.toNat 0)))) else False
 | _,_,_=>False
def isConst:Operand->Bool
 | .const _=>true
 | _=>false
def qj (b:Bs) (s:Ov) (x:Operand) (k:SV->Prop):Prop:=match fe b s x with
 | some v=>k v
 | none=>False
def nJ (b:Bs) (s:Ov) (x:Operand) (k:Cl->Prop):Prop:=match fe b s x with
 | some (.v (.c c))=>k c
 | _=>False
def wE (b:Bs) (s:Ov) (q:Option Operand) (k:Option SV->Prop):Prop:=match q with
 | none=>k none
 | some y=>qj b s y λv=>k (some v)
def JE:List SV->Option (List Cl)
 | []=>some []
 | .v (.c c)::r=>match JE r with
  | some q=>some (c::q)
  | none=>none
 | _=>none
def vM:(off n j:Nat)->List Cl->List ByteArray->Option (List Cl)
 | 0,0,_,cs,_=>some cs
 | 0,n+1,j,c::r,ys=>match c with
  | .k (.string z)=>match vM 0 n (j+1) r ys with
   | some l=>some (.k (.string ((ys[j]?).getD z))::l)
   | none=>none
  | _=>none
 | off+1,n,j,c::r,ys=>match vM off n j r ys with
  | some l=>some (c::l)
  | none=>none
 | _,_,_,[],_=>none
def copyV (X:Vx) (b:Bs) (s:Ov) (t t2:TypeId) (x y:Cl) (K:SV->Ov->Prop):Prop:=match X.P.underlying t,x with
 | some (.slice et),.sc l off n=>if Nat.beq t t2 then (match X.P.info? et,sK b s .str y,b.obj s l with
  | some ie,some ys,.cells u cs=>if Nat.beq ie.size 1 then (match vM off n 0 cs ys with
   | some xC=>n<=9223372036854775807/\K (.int (min ys.length n:Nat)) (s.dS l (.cells u xC))
   | none=>False) else False
  | _,_,_=>False) else False
 | some (.slice et),.o l=>if Nat.beq t t2&& MS X et then (match b.obj s l with
  | .sl Ol _ xs=>if Nat.beq Ol et then (match zf .u8 xs with
   | some xs=>XC b s .u8 y λys=>K (.int (min ys.length xs.length:Nat)) (s.dS l (.sl et .u8 (lW xs 0 ys)))
   | none=>False) else False
  | _=>False) else False
 | some (.slice et),.os l sz lo hi=>if Nat.beq t t2&& (MS X et&& Nat.beq sz 1) then (match b.obj s l with
  | .sl Ol _ xs=>if Nat.beq Ol et then (match zf .u8 xs with
   | some xs=>0<=lo/\lo<=xs.length/\hi=xs.length/\XC b s .u8 y λys=>K (.int (min ys.length (xs.length - lo.toNat):Nat)) (s.dS l (.sl et .u8 (lW xs lo.toNat ys)))
   | none=>False) else False
  | _=>False) else False
 | _,_=>False
def pG (X:Vx) (b:Bs) (s:Ov) (bi:Builtin) (args:List SV) (ts:List TypeId) (K:SV->Ov->Prop):Prop:=match bi with
 | .len=>match args,ts with
  | [.v (.c x)],[t]=>Ea X.P b s t x λr=>K r s
  | _,_=>False
 | .append=>match args,ts with
  | [.v (.c x),.v (.c y)],[t,t2]=>JO X b s t t2 x y K
  | _,_=>False
 | .copy=>match args,ts with
  | [.v (.c x),.v (.c y)],[t,t2]=>copyV X b s t t2 x y K
  | _,_=>False
 | .min=>match args,ts with
  | [x,y],[_,_]=>mmV true x y λr=>K r s
  | _,_=>False
 | .max=>match args,ts with
  | [x,y],[_,_]=>mmV false x y λr=>K r s
  | _,_=>False
 | _=>False
def Sk (P:Program) (t:TypeId) (name:String):Option FuncId:=match P.info? t with
 | some ti=>match ti.methods.find? (·.name==name) with
  | some m=>if m.path.isEmpty then (match m.func,P.underlying t with
   | some (f,true),some (.pointer _)=>some f
   | _,_=>none) else none
  | none=>none
 | none=>none
def BA (X:Vx) (b:Bs) (s:Ov) (c:Call) (K:SV->Ov->Prop):Prop:=match Ap b s c.args.toList with
 | none=>False
 | some args=>match c.callee with
  | .value f=>nJ b s f λq=>match q with
   | .fn f caps=>if qS X.P f then (if hZ f X.hold then vF b (args++caps.map .c) s λvs s=>Dk (zP X.ct) b s f vs K else if hZ f X.ro then Tc (zP X.ct) b s f (args++caps.map .c) K else Dk (zP X.ct) b s f (args++caps.map .c) K) else False
   | _=>False
  | .builtin bi=>pG X b s bi args c.argTypes.toList K
  | .invoke ro name=>nJ b s ro λq=>match q with
   | .AM t r=>(match Sk X.P t name with
    | some f=>if qS X.P f then (if hZ f X.ro then Tc (zP X.ct) b s f (.v (.c r)::args) K else Dk (zP X.ct) b s f (.v (.c r)::args) K) else False
    | none=>False)
   | _=>False
def Lq (X:Vx) (b:Bs) (s:Ov) (o:Oper) (K:SV->Ov->Prop):Prop:=match o.op with
  | .move x| .assign x=>qj b s x λv=>K v s
  | .pick c x y=>nJ b s c λc=>qj b s x λv=>qj b s y λu=>match c with
    | .k (.bool q)=>br q (K v s) (K u s)
    | _=>False
  | .binOp op t x y _=>qj b s x λv=>qj b s y λu=>El X.wrap X.P b s (isConst x|| isConst y) op t v u λr=>K r s
  | .unOp op _ x=>qj b s x λv=>unV X.wrap op v λr=>K r s
  | .extract x i=>qj b s x λv=>match v with
    | .cJ l=>match l[i]? with
      | some c=>K (.v c) s
      | none=>False
    | _=>False
  | .field t x j=>qj b s x λv=>match v with
    | .v (.agg l)=>match tY X.P t j with
      | some f=>match pT X.P f.type l f.offset with
        | some r=>K (.v r) s
        | none=>False
      | none=>False
    | _=>False
  | .load t x=>nJ b s x λc=>sJ X.P b s t c λr=>K r s
  | .store t x y=>nJ b s x λc=>qj b s y λu=>match u with
    | .v u=>match c with
      | .oe lb sz i off=>match X.sfh,u with
        | true,.c (.o q)=>BL X.P b s t lb sz i off q λs'=>K .tx s'
        | _,_=>kW b u.cells s λcs s1=>BF X.P b s1 t c (XX u cs) λs'=>K .tx s'
      | _=>BF X.P b s t c u λs'=>K .tx s'
    | .arr k l=>zg X.P b s t c k l λs'=>K .tx s'
    | _=>False
  | .alloc t=>match nZ X.P t with
    | some z=>match L4 X.P t with
     | some (n,k)=>if pE k n z then K (.c (.oe s.n 1 0 0)) (s.new (.sl t (.int k) (av n 0))) else False
     | none=>K (.c (.p s.n 0)) (s.new (.cells t z))
    | none=>False
  | .box t x=>qj b s x λv=>match v with
    | .v v=>K (.c (.p s.n 0)) (s.new (.cells t v.cells))
    | .arr k l=>(match L4 X.P t with
      | some (n,k')=>if IntKind.beq k k' then (l.length=n/\K (.c (.oe s.n 1 0 0)) (s.new (.sl t (.int k) l))) else False
      | none=>False)
    | _=>False
  | .nilCheck x=>nJ b s x λc=>match c with
    | .p l off=>K (.c (.p l off)) s
    | .de e y i off=>K (.c (.de e y i off)) s
    | .oe l sz i off=>K (.c (.oe l sz i off)) s
    | .kl l (.pointer (some q))=>K (.c (.kl l (.pointer (some q)))) s
    | _=>False
  | .fieldAddr t x j=>nJ b s x λc=>match tY X.P t j with
    | some f=>match X.P.info? f.type with
      | some ie=>if gn 0 ie.size then (match aas c f.offset with
        | some c'=>K (.c c') s
        | none=>False) else False
      | none=>False
    | none=>False
  | .indexAddr t x i=>nJ b s x λc=>nJ b s i λq=>match q with
    | .k (.int _ n)=>ia X.P b s t c n λr=>K r s
    | _=>False
  | .index t x i=>nJ b s x λc=>nJ b s i λq=>match X.P.underlying t,c,q with
    | some .string,.k (.string z),.k (.int _ n)=>0<=n/\n< z.size/\K (.k (.int .u8 ((ra z n).toNat:Int))) s
    | _,_,_=>False
  | .slice t x lo hi none=>nJ b s x λc=>wE b s lo λl=>wE b s hi λh=>match intOf l,intOf h with
    | some l,some h=>ph X.P b s t c l h λr=>K r s
    | _,_=>False
  | .slice t x lo hi (some y)=>nJ b s x λc=>wE b s lo λl=>wE b s hi λh=>nJ b s y λq=>match intOf l,intOf h,q with
    | some l,some h,.k (.int .i64 m)=>HJ X.P t c l h m λr=>K r s
    | _,_,_=>False
  | .sliceToArrayPointer t x=>nJ b s x λc=>JN X.P t c λr=>K r s
  | .build t ps=>match sH b s ps.toList with
    | some l=>vP X.P t l λr=>K r s
    | none=>False
  | .buildSlice t n ps=>match sH b s ps.toList with
    | some l=>ta X b s t n l K
    | none=>False
  | .convert src dst x=>qj b s x λv=>oH X b s src dst v K
  | .makeFunc (.func f) first captured=>if first.isEmpty then (match Ap b s captured.toList with
    | some l=>match JE l with
      | some cs=>K (.c (.fn f cs)) s
      | none=>False
    | none=>False) else False
  | .makeInterface t x=>nJ b s x λc=>PF X.P t c λr=>K r s
  | .typeAssert x _ t true=>nJ b s x λc=>JL X.P t c λr=>K r s
  | .typeAssert x _ t false=>nJ b s x λc=>JM X.P t c λr=>K r s
  | .makeMap t none=>CI X s t K
  | .lookup t x y c=>nJ b s x λmx=>qj b s y λky=>match ky with
    | .v (.c ky)=>(match ac0 b s mx with
      | some (l,⟨kt,tR,e,M⟩)=>if c then IK X s t l kt tR e M ky K else False
      | none=>Jb X b s t mx ky c λr=>K r s)
    | .v (.agg cs)=>if c then False else JD X b s t mx cs K
    | _=>False
  | .mapUpdate t x y z=>nJ b s x λmx=>nJ b s y λky=>qj b s z λu=>match u with
    | .v v=>(match ac0 b s mx with
      | some (l,⟨kt,tR,e,M⟩)=>Pb X b s t l kt tR e M ky v λs'=>K .tx s'
      | none=>wM X b s t mx ky v λs'=>K .tx s')
    | _=>False
  | .range t x=>nJ b s x λc=>OU X b s t c K
  | .next x true=>nJ b s x λc=>Yt b s c K
  | .next x false=>nJ b s x λc=>Yu X.P b s c K
  | .entry x=>nJ b s x λc=>P0 X.P b s c λr=>K r s
  | .makeSlice t x y=>nJ b s x λc=>nJ b s y λd=>vA X s t c d K
  | .mapEntry t x y=>nJ b s x λmx=>qj b s y λky=>match ky with
    | .v (.agg cs)=>Qe X b s t mx cs K
    | _=>False
  | .entryStore t x y z=>nJ b s x λmx=>nJ b s y λst=>qj b s z λu=>match u with
    | .v v=>(match mx with
      | .m l=>Qd X.P b s t l st v λs'=>K .tx s'
      | _=>False)
    | _=>False
  | .insert t x y z=>nJ b s x λmx=>nJ b s y λky=>qj b s z λu=>match u with
    | .v v=>wM X b s t mx ky v λs'=>K .tx s'
    | _=>False
  | .call c=>BA X b s c K
  | _=>False
inductive Ex
 | normal| exit (id:Nat)| ret
def Et (ops:Array Oper) (b:Bs) (s:Ov) (o:Oper) (K:Bool->Ov->Prop):Prop:=match o.guard with
 | none=>K true s
 | some (j,w)=>match (ops[j]?).bind (·.dst) with
  | none=>False
  | some d=>match b.slot s d with
   | some (.v (.c (.k (.bool v))))=>br v (K (true==w) (s.put (some d) (.bool true))) (K (false==w) (s.put (some d) (.bool false)))
   | some (.cJ _)=>K false s
   | _=>False
def OA (X:Vx) (n:Nat) (ops:Array Oper) (b:Bs) (s:Ov) (o:Oper) (K:Ov->Prop):Prop:=
 if (match o.dst with| some d=>gn d n| none=>true) then Et ops b s o λw s=>match w with
  | true=>Lq X b s o λv s'=>K (s'.put o.dst v)
  | false=>K (s.put o.dst .tx)
 else False
def ahg (X:Vx) (n:Nat) (ops:Array Oper) (b:Bs):List Oper->Ov->(Ov->Prop)->Prop
 | [],s,K=>K s
 | o::r,s,K=>OA X n ops b s o λs'=>ahg X n ops b r s' K
def Cz (P:Program) (t:TypeId):Bool:=match P.underlying t with
 | some (.int _)| some .string| some .bool| some (.struct _)| some (.array _ _)=>true
 | _=>false
def lG (P:Program) (o:Oper):Bool:=o.dst.isSome&& (match o.op with
 | .move _| .assign _| .pick .. | .unOp .. | .extract .. | .field .. | .load .. | .nilCheck _| .fieldAddr .. | .indexAddr .. | .index .. | .build .. =>true
 | .slice _ _ _ _ none=>true
 | .binOp _ t _ _ _=>Cz P t
 | .convert _ dst _=>(match P.underlying dst with
  | some .string| some (.int _)=>true
  | _=>false)
 | .call c=>(match c.callee with
  | .builtin .len=>true
  | _=>false)
 | _=>false)
def iU {α:Type}:List α->(List α->Prop)->Prop
 | [],k=>k []
 | a::l,k=>iU l λl'=>k (a::l')
def Js:List Bool->(List Bool->Prop)->Prop
 | [],k=>k []
 | a::l,k=>Js l λl'=>match a with
  | true=>k (true::l')
  | false=>k (false::l')
def dV:List Bool->Nat->Bool
 | [],_=>false
 | a::_,0=>a
 | _::r,i+1=>dV r i
def lr:List (List Bool)->Nat->List Bool
 | [],_=>[]
 | a::_,0=>a
 | _::r,i+1=>lr r i
def UB:Nat->List Bool->List Bool
 | 0,[]=>[true]
 | 0,_::r=>true::r
 | k+1,[]=>false::UB k []
 | k+1,a::r=>a::UB k r
def orB:List Bool->List Bool->List Bool
 | [],l=>l
 | a::r,[]=>a::r
 | a::r,b::q=>(a|| b)::orB r q
def UP (acc:List (List Bool)):List Edge->List Bool
 | []=>[]
 | e::r=>match Region.binds .any e with
  | true=>orB (UB e.on (lr acc e.on)) (UP acc r)
  | false=>UP acc r
def XU:List Oper->List (List Bool)->(List (List Bool)->Prop)->Prop
 | [],acc,k=>k acc
 | o::r,acc,k=>Js (UP acc o.after.toList) λrow=>iU (acc++ [row]) λacc=>XU r acc k
def Jz:List Bool->List Bool->Nat
 | p::ps,r::rs=>match r&& !p with
  | true=>Jz ps rs+1
  | false=>Jz ps rs
 | _,_=>0
def TH (pu:List Bool) (ms:List (List Bool)) (size J:Nat):List Nat:=(bN size).filter λi=>dV pu i&& Nat.beq (Jz pu (lr ms i)) J
def ae0 (pu:List Bool) (ms:List (List Bool)) (size:Nat):Nat->List Nat->List Nat
 | J,[]=>TH pu ms size J
 | J,n::r=>TH pu ms size J++n::ae0 pu ms size (J+1) r
def aeZ (pu:List Bool) (ms:List (List Bool)) (size:Nat):List Nat:=ae0 pu ms size 0 ((bN size).filter λi=> !dV pu i)
def Zn (ops:Array Oper) (k:Nat):Option Nat:=(ops[k]?).bind (·.dst)
def AV (pu:List Bool) (ms:List (List Bool)):List Nat->List Nat->Bool
 | _,[]=>true
 | dn,i::r=>dn.all (λj=>dV pu j|| dV (lr ms i) j)&& AV pu ms (i::dn) r
def isDst (ops:Array Oper) (k t:Nat):Bool:=match Zn ops k with
 | some d=>Nat.beq d t
 | none=>false
def ahF (ops:Array Oper) (k:Nat):Bool:=match Zn ops k with
 | some d=>(bN k).any λi=>match ops[i]? with
  | some o=>hZ d (slotsOf ops o)
  | none=>false
 | none=>false
def vw (P:Program) (ops:Array Oper) (k:Nat):Bool:=match ops[k]? with
 | some o=>lG P o&& !ahF ops k
 | none=>false
def BJ (ops:Array Oper) (pu:List Bool) (ms:List (List Bool)):Bool:=(bN ops.size).all λi=>match ops[i]? with
 | none=>true
 | some o=>(slotsOf ops o).all λt=>(bN ops.size).all λk=> !isDst ops k t|| (dV (lr ms i) k|| !dV pu k)
def tS (ops:Array Oper) (pu:List Bool) (ms:List (List Bool)):List Nat->Bool
 | []=>true
 | i::r=>(!dV pu i|| match ops[i]? with
  | none=>true
  | some o=>(slotsOf ops o).all λt=> !isDst ops i t&& r.all λk=> !isDst ops k t|| (!dV pu k&& dV (lr ms k) i))&& tS ops pu ms r
def Yh (ops:Array Oper) (pu:List Bool) (ms:List (List Bool)) (ord:List Nat):Bool:=
 nt ord&& ord.all (λi=>gn i ops.size)&& (bN ops.size).all (λi=>hZ i ord)&& AV pu ms [] ord&& BJ ops pu ms&& tS ops pu ms ord
def Me (b:Bs) (s:Ov) (o:Oper):List Nat:=o.op.operands.toList.flatMap λx=>match fe b s x with
 | some v=>v.labels
 | none=>[]
def va (b:Bs) (s:Ov) (o:Oper):List Nat:=match o.op with
 | .move _| .assign _=>[]
 | _=>Me b s o
def acy (X:Vx) (n:Nat) (ops:Array Oper) (b:Bs) (s:Ov) (o:Oper) (K:Ov->List Nat->Prop):Prop:=
 if (match o.dst with| some d=>gn d n| none=>true) then Et ops b s o λw s=>match w with
  | true=>Lq X {f:=s.f++b.f,h:=b.heap s} {f:=[],h:=[],n:=s.n} o λv s'=>match s'.f with
   | []=>K (({f:=s.f,h:=s'.h++s.h,n:=s'.n}:Ov).put o.dst v) (s'.h.map (·.1))
   | _=>False
  | false=>K (s.put o.dst .tx) []
 else False
def By (X:Vx) (n:Nat) (ops:Array Oper) (b:Bs) (ms:List (List Bool)) (pu:List Bool):List Nat->List (Nat×List Nat)->Ov->(Ov->Prop)->Prop
 | [],_,s,K=>K s
 | i::r,lv,s,K=>match ops[i]? with
  | none=>False
  | some o=>match dV pu i with
   | true=>OA X n ops b s o λs'=>By X n ops b ms pu r ((i,va b s o)::lv) s' K
   | false=>acy X n ops b s o λs' ks=>iU (lv.filter λp=> !dV (lr ms i) p.1) λlv=>if lv.all (λp=>p.2.all λl=> !hZ l ks) then By X n ops b ms pu r lv s' K else False
def U2 (ms:List (List Bool)) (np dn:List Nat) (i:Nat):Bool:=np.all λj=> !dV (lr ms i) j|| hZ j dn
def JR (pu:List Bool) (ms:List (List Bool)) (np:List Nat) (size:Nat):Nat->List Nat->List (List Nat)
 | 0,_=>[[]]
 | f+1,dn=>
  let ps:=(bN size).filter λi=>dV pu i&& (!hZ i dn&& U2 ms np dn i)
  match np.filter λi=> !hZ i dn&& U2 ms np dn i with
  | []=>[ps]
  | ns=>ns.flatMap λi=>(JR pu ms np size f (dn++ps++ [i])).map λr=>ps++i::r
def qW (pu:List Bool):List Nat->Nat->Bool
 | [],_=>false
 | x::r,i=>Nat.beq x i|| (dV pu x&& qW pu r i)
def BE:List Nat->List Nat->Option (List Nat)
 | [],r=>some r
 | _::_,[]=>none
 | a::l,b::r=>bif Nat.beq a b then BE l r else none
def xh (pu:List Bool) (ms:List (List Bool)) (np:List Nat) (os:List (List Nat)):List Nat->List Nat->Bool
 | _,[]=>true
 | dn,x::r=>((x::r).all λi=>qW pu (x::r) i|| (!U2 ms np dn i|| os.any λo=>match BE dn o with
   | some q=>qW pu q i
   | none=>false))&& xh pu ms np os (dn++ [x]) r
def Qt (ops:Array Oper) (pu:List Bool) (ms:List (List Bool)) (np:List Nat) (os:List (List Nat)):Bool:=
 BJ ops pu ms&& (!os.isEmpty&& os.all λord=>nt ord&& (ord.all (λi=>gn i ops.size)&& ((bN ops.size).all (λi=>hZ i ord)&& (tS ops pu ms ord&& xh pu ms np os [] ord))))
def vG:List (List Nat)->List Nat
 | []=>[]
 | []::r=>vG r
 | (x::_)::r=>match hZ x (vG r) with
  | true=>vG r
  | false=>x::vG r
def rW (i:Nat):List (List Nat)->List (List Nat)
 | []=>[]
 | []::r=>rW i r
 | (x::q)::r=>match Nat.beq x i with
  | true=>q::rW i r
  | false=>rW i r
def ajd:List Nat->(Nat->Prop)->Prop
 | [],_=>True
 | [x],p=>p x
 | x::y::r,p=>p x/\ajd (y::r) p
def qV:List (List Nat)->(List (List Nat)->Prop)->Prop
 | [],k=>k []
 | a::l,k=>iU a λa'=>qV l λl'=>k (a'::l')
def FC (X:Vx) (n:Nat) (ops:Array Oper) (b:Bs) (ms:List (List Bool)) (pu:List Bool):Nat->List (List Nat)->List (Nat×List Nat)->Ov->(Ov->Prop)->Prop
 | 0,_,_,s,K=>K s
 | f+1,os,lv,s,K=>iU (vG os) λhs=>ajd hs λi=>match ops[i]? with
  | none=>False
  | some o=>match dV pu i with
   | true=>OA X n ops b s o λs'=>qV (rW i os) λos=>FC X n ops b ms pu f os ((i,va b s o)::lv) s' K
   | false=>acy X n ops b s o λs' ks=>iU (lv.filter λp=> !dV (lr ms i) p.1) λlv=>if lv.all (λp=>p.2.all λl=> !hZ l ks) then qV (rW i os) λos=>FC X n ops b ms pu f os lv s' K else False
def v8 (X:Vx) (n:Nat) (ops:Array Oper) (draw:Bool) (b:Bs) (s:Ov) (K:Ov->Prop):Prop:=
 if draw then
  if X.P.follows .mixedOrders&& Jv ops&& P3 ops n then
   Js ((bN ops.size).map (vw X.P ops)) λpu=>XU ops.toList [] λms=>iU (aeZ pu ms ops.size) λord=>
    if Yh ops pu ms ord then By X n ops b ms pu ord [] s K
    else iU ((bN ops.size).filter λi=> !dV pu i) λnp=>qV (JR pu ms np ops.size ops.size []) λos=>
     if Qt ops pu ms np os then FC X n ops b ms pu ops.size os [] s K else False
  else False
 else ahg X n ops b ops.toList s K
inductive Wj
 | iter
 | ch (kt tI:TypeId)
 | pm (kt tR:TypeId) (e:Ty)
 | Pd (kt:TypeId) (l:Nat) (e:Ty)
@[reducible] def Wj.den:Wj->Type
 | .iter=>ByteArray×Nat
 | .ch _ _=>ur
 | .pm _ _ e=>List (Int×Nat×e.den)
 | .Pd _ _ e=>Hp×Nat×List (Int×Nat×e.den)×Option (Int×Nat×e.den)
def Wj.mk:(t:Wj)->t.den->AbK
 | .iter,x=>.iter x.1 x.2
 | .ch kt tI,x=>.ch kt tI x
 | .pm kt tR e,x=>.pm kt tR e x
 | .Pd kt l e,x=>.Pd kt l e x.1 x.2.1 x.2.2.1 x.2.2.2
def ajc {e':Ty} (e:Ty) (x:List (Int×Nat×e'.den)):Option (List (Int×Nat×e.den)):=if h:e'.beq e=true then some (Ty.eq_of_beq h▸x) else none
def aao {e':Ty} (e:Ty) (x:Hp×Nat×List (Int×Nat×e'.den)×Option (Int×Nat×e'.den)):Option (Hp×Nat×List (Int×Nat×e.den)×Option (Int×Nat×e.den)):=if h:e'.beq e=true then some (Ty.eq_of_beq h▸x) else none
def Wj.rd:(t:Wj)->AbK->Option t.den
 | .iter,k=>match k with
  | .iter z p=>some (z,p)
  | _=>none
 | .ch kt tI,k=>match k with
  | .ch a b M=>if Nat.beq a kt&& Nat.beq b tI then some M else none
  | _=>none
 | .pm kt tR e,k=>match k with
  | .pm a b e' M=>if Nat.beq a kt&& Nat.beq b tR then ajc e M else none
  | _=>none
 | .Pd kt l e,k=>match k with
  | .Pd kt' l' e' hz mb left cur=>if Nat.beq kt' kt&& Nat.beq l' l then aao e (hz,mb,left,cur) else none
  | _=>none
theorem Wj.aeT:∀ {t:Wj} {k:AbK} {x:t.den},t.rd k=some x->k=t.mk x:=by
 intro t k x h;cases t<;>cases k<;>first| (have h':none=some x:=h;cases h';done)| skip
 .obtain rfl:=aj h;rfl
 .rename_i kt tI a b M;have h:(if Nat.beq a kt&& Nat.beq b tI then some M else none)=some x:=h
  split at h
  .rename_i hc;simp only [ao] at hc;obtain rfl:=aj h;rw [ai hc.1,ai hc.2];rfl
  .cases h
 .rename_i kt tR e a b e' M;have h:(if Nat.beq a kt&& Nat.beq b tR then ajc e M else none)=some x:=h
  split at h
  .rename_i hc;simp only [ao] at hc;obtain rfl:=ai hc.1;obtain rfl:=ai hc.2;unfold ajc at h;split at h
   .rename_i hq;have SK:=Ty.eq_of_beq hq;subst SK;obtain rfl:=aj h;rfl
   .cases h
  .cases h
 .rename_i kt l e kt' l' e' hz mb left cur;have h:(if Nat.beq kt' kt&& Nat.beq l' l then aao e (hz,mb,left,cur) else none)=some x:=h
  split at h
  .rename_i hc;simp only [ao] at hc;obtain rfl:=ai hc.1;obtain rfl:=ai hc.2;unfold aao at h;split at h
   .rename_i hq;have SK:=Ty.eq_of_beq hq;subst SK;obtain rfl:=aj h;rfl
   .cases h
  .cases h
mutual
def Cl.same:Cl->Cl->Bool
 | .p l x,c=>match c with
  | .p l' x'=>Nat.beq l l'&& Nat.beq x x'
  | _=>false
 | .m l,c=>match c with
  | .m l'=>Nat.beq l l'
  | _=>false
 | .AM t x,c=>match c with
  | .AM t' x'=>Nat.beq t t'&& Cl.same x x'
  | _=>false
 | .fn f l,c=>match c with
  | .fn f' l'=>Nat.beq f f'&& Cl.FL l l'
  | _=>false
 | _,_=>false
def Cl.FL:List Cl->List Cl->Bool
 | [],c=>match c with
  | []=>true
  | _=>false
 | a::l,c=>match c with
  | b::r=>Cl.same a b&& Cl.FL l r
  | _=>false
end
mutual
theorem Cl.HQ:∀ {a b:Cl},Cl.same a b=true->a=b
 | .p l x,c,h=>by
  cases c<;>simp only [Cl.same] at h<;>first| (cases h;done)| skip
  simp only [ao] at h;rw [ai h.1,ai h.2]
 | .m l,c,h=>by
  cases c<;>simp only [Cl.same] at h<;>first| (cases h;done)| skip
  rw [ai h]
 | .AM t x,c,h=>by
  cases c<;>simp only [Cl.same] at h<;>first| (cases h;done)| skip
  simp only [ao] at h;rw [ai h.1,Cl.HQ h.2]
 | .fn f l,c,h=>by
  cases c<;>simp only [Cl.same] at h<;>first| (cases h;done)| skip
  simp only [ao] at h;rw [ai h.1,Cl.LM h.2]
 | .k _,_,h=>by simp [Cl.same] at h
 | .d _ _,_,h=>by simp [Cl.same] at h
 | .de _ _ _ _,_,h=>by simp [Cl.same] at h
 | .o _,_,h=>by simp [Cl.same] at h
 | .os _ _ _ _,_,h=>by simp [Cl.same] at h
 | .oe _ _ _ _,_,h=>by simp [Cl.same] at h
 | .sc _ _ _,_,h=>by simp [Cl.same] at h
 | .kl _ _,_,h=>by simp [Cl.same] at h
 | .JX,_,h=>by simp [Cl.same] at h
theorem Cl.LM:∀ {a b:List Cl},Cl.FL a b=true->a=b
 | [],c,h=>by
  cases c with
  | nil=>rfl
  | cons _ _=>simp [Cl.FL] at h
 | a::l,c,h=>by
  cases c with
  | nil=>simp [Cl.FL] at h
  | cons b r=>
   simp only [Cl.FL,ao] at h;rw [Cl.HQ h.1,Cl.LM h.2]
end
inductive Sh
 | int (k:IntKind)| bool| str
 | d (e:Ty)
 | own (t:TypeId) (e:Ty)
 | p (l off:Nat)
 | m (l:Nat)
 | pa (t:Wj)
 | Jx (c:Cl)
 | dp (e:Ty)
@[reducible] def Sh.den:Sh->Type
 | .int _=>Int
 | .bool=>Bool
 | .str=>ByteArray
 | .d e=>List e.den
 | .own _ e=>List e.den
 | .p .. | .m _=>Unit
 | .pa t=>t.den
 | .Jx _=>Unit
 | .dp e=>List e.den
def Sh.mk:(h:Sh)->h.den->Nat->Cl×List HO
 | .int k,n,_=>(.k (.int k n),[])
 | .bool,v,_=>(.k (.bool v),[])
 | .str,z,_=>(.k (.string z),[])
 | .d e,x,_=>(.d e x,[])
 | .own t e,x,n=>(.o n,[.sl t e x])
 | .p l off,_,_=>(.p l off,[])
 | .m l,_,_=>(.m l,[])
 | .pa t,x,n=>(.p n 0,[.ab (t.mk x)])
 | .Jx c,_,_=>(c,[])
 | .dp e,x,_=>(.de e x 0 0,[])
def Sh.rd (b:Bs) (s:Ov):(h:Sh)->Cl->Option (h.den×List Nat)
 | .int k,c=>match c with
  | .k (.int k' n)=>if IntKind.beq k' k then some (n,[]) else none
  | _=>none
 | .bool,c=>match c with
  | .k (.bool v)=>some (v,[])
  | _=>none
 | .str,c=>match c with
  | .k (.string z)=>some (z,[])
  | _=>none
 | .d e,c=>match c with
  | .d _ x=>match zf e x with
   | some y=>some (y,[])
   | none=>none
  | .k (.slice none 0 0)=>some ([],[])
  | .o l=>match b.obj s l with
   | .held _ _ x=>match zf e x with
    | some y=>some (y,[])
    | none=>none
   | _=>none
  | _=>none
 | .own t e,c=>match c with
  | .k (.slice none 0 0)=>some ([],[])
  | .o l=>match b.obj s l with
   | .sl t' _ x=>if Nat.beq t' t then (match zf e x with
    | some y=>some (y,[l])
    | none=>none) else none
   | _=>none
  | _=>none
 | .p l off,c=>match c with
  | .p l' ahI=>if Nat.beq l' l&& Nat.beq ahI off&& gn l b.h.length then some ((),[]) else none
  | _=>none
 | .m l,c=>match c with
  | .m l'=>if Nat.beq l' l&& gn l b.h.length then some ((),[]) else none
  | _=>none
 | .pa t,c=>match c with
  | .p l 0=>match b.obj s l with
   | .ab k=>match t.rd k with
    | some x=>some (x,[l])
    | none=>none
   | _=>none
  | _=>none
 | .Jx c0,c=>if Cl.same c c0&& c0.labels.all (λl=>gn l b.h.length) then some ((),[]) else none
 | .dp e,c=>match c with
  | .de _ x i off=>if decide (i=0)&& Nat.beq off 0 then (match zf e x with
   | some y=>some (y,[])
   | none=>none) else none
  | _=>none
inductive N9
 | cells (t:TypeId) (cs:List Sh)
 | sl (t:TypeId) (e:Ty)
 | map (t:TypeId) (k:Kk) (e:Ty)
 | ab (t:Wj)
 | abs
@[reducible] def N6.den:List Sh->Type
 | []=>Unit
 | h::r=>h.den×N6.den r
def N6.mk:(l:List Sh)->N6.den l->Nat->List Cl×List HO
 | [],_,_=>([],[])
 | h::r,x,n=>((h.mk x.1 n).1::(N6.mk r x.2 (n+(h.mk x.1 n).2.length)).1,(h.mk x.1 n).2++(N6.mk r x.2 (n+(h.mk x.1 n).2.length)).2)
def N6.rd (b:Bs) (s:Ov):(l:List Sh)->List Cl->Option (N6.den l×List Nat)
 | [],[]=>some ((),[])
 | h::r,c::cs=>match h.rd b s c with
  | some (x,u)=>match N6.rd b s r cs with
   | some (y,v)=>some ((x,y),u++v)
   | none=>none
  | none=>none
 | _,_=>none
@[reducible] def N9.den:N9->Type
 | .cells _ cs=>N6.den cs
 | .sl _ e=>List e.den
 | .map _ k e=>List (k.den×e.den)
 | .ab t=>t.den
 | .abs=>Value->Atom
def N9.mk:(h:N9)->h.den->Nat->HO×List HO
 | .cells t cs,x,n=>(.cells t (N6.mk cs x n).1,(N6.mk cs x n).2)
 | .sl t e,x,_=>(.sl t e x,[])
 | .map t k e,x,_=>(.map t k e x,[])
 | .ab t,x,_=>(.ab (t.mk x),[])
 | .abs,x,_=>(.abs x,[])
def N9.rd (b:Bs) (s:Ov):(h:N9)->HO->Option (h.den×List Nat)
 | .cells t cs,o=>match o with
  | .cells t' c=>if Nat.beq t' t then N6.rd b s cs c else none
  | _=>none
 | .sl t e,o=>match o with
  | .sl t' _ x=>if Nat.beq t' t then (match zf e x with
   | some y=>some (y,[])
   | none=>none) else none
  | _=>none
 | .map t k e,o=>match o with
  | .map t' _ _ x=>if Nat.beq t' t then (match asM k e x with
   | some y=>some (y,[])
   | none=>none) else none
  | _=>none
 | .ab t,o=>match o with
  | .ab k=>match t.rd k with
   | some x=>some (x,[])
   | none=>none
  | _=>none
 | .abs,o=>match o with
  | .abs a=>some (a,[])
  | _=>none
structure xz where
 jA:List (Nat×Sh)
 yE:List (Nat×N9)
@[reducible] def rY:List (Nat×Sh)->Type
 | []=>Unit
 | p::r=>p.2.den×rY r
@[reducible] def wG:List (Nat×N9)->Type
 | []=>Unit
 | p::r=>p.2.den×wG r
@[reducible] def xz.den (a:xz):Type:=rY a.jA×wG a.yE
def jo:(l:List (Nat×Sh))->rY l->Nat->Ag×List HO
 | [],_,_=>([],[])
 | p::r,x,n=>((p.1,.c (p.2.mk x.1 n).1)::(jo r x.2 (n+(p.2.mk x.1 n).2.length)).1,(p.2.mk x.1 n).2++(jo r x.2 (n+(p.2.mk x.1 n).2.length)).2)
def mf:(l:List (Nat×N9))->wG l->Nat->List (Nat×HO)×List HO
 | [],_,_=>([],[])
 | p::r,x,n=>((p.1,(p.2.mk x.1 n).1)::(mf r x.2 (n+(p.2.mk x.1 n).2.length)).1,(p.2.mk x.1 n).2++(mf r x.2 (n+(p.2.mk x.1 n).2.length)).2)
def AE (b:Bs) (s:Ov):(l:List (Nat×Sh))->Option (rY l×List Nat)
 | []=>some ((),[])
 | p::r=>match b.slot s p.1 with
  | some (.v (.c c))=>match p.2.rd b s c with
   | some (x,u)=>match AE b s r with
    | some (y,v)=>some ((x,y),u++v)
    | none=>none
   | none=>none
  | _=>none
def IQ (b:Bs) (s:Ov):(l:List (Nat×N9))->Option (wG l×List Nat)
 | []=>some ((),[])
 | p::r=>match p.2.rd b s (b.obj s p.1) with
  | some (x,u)=>match IQ b s r with
   | some (y,v)=>some ((x,y),u++v)
   | none=>none
  | none=>none
inductive bp {ι:Type} (B:ι->(ι->Prop)->Prop) (i:ι):Prop
 | intro (I:ι->Prop) (μ:ι->Nat) (h0:I i) (h:∀ j,I j->B j λj'=>I j'/\μ j'< μ j)
abbrev agD (ι:Type) (B:ι->(ι->Prop)->Prop) (i:ι):Prop:=bp B i
inductive cV {ι:Type} (A:(ι->Prop)->Prop) (B:ι->Prop):Prop
 | intro (J:ι->Prop) (hA:A J) (hB:∀ i,J i->B i)
def nE:Code->List Nat
 | .region _ ops _=>ops.toList.filterMap (·.dst)
 | .seq a b=>nE a++nE b
 | .cond _ a b=>nE a++nE b
 | .block _ c| .loop c| .scope c=>nE c
 | _=>[]
def py:Code->Nat
 | .region id _ _=>id+1
 | .seq a b=>let k:=py a;bif Nat.beq k 0 then py b else k
 | .cond _ a b=>let k:=py a;bif Nat.beq k 0 then py b else k
 | .block _ c| .loop c| .scope c=>py c
 | _=>0
structure Eo where
 loops:List (Nat×xz)
 YI:List (Nat×xz)
def MJ:List (Nat×xz)->Nat->Option xz
 | [],_=>none
 | (k,v)::s,t=>bif Nat.beq k t then some v else MJ s t
def Hw:Nat->List HO->List (Nat×HO)
 | _,[]=>[]
 | n,o::r=>(n,o)::Hw (n+1) r
def pH (ks:List Nat) (b:Bs) (s:Ov):Bs:= {f:=(s.f++b.f).filter λp=> !hZ p.1 ks,h:=b.heap s}
def uA (ks:List Nat) (b:Bs) (s:Ov):Ov:= {f:=(s.f++b.f).filter λp=>hZ p.1 ks,h:=[],n:=s.n}
def oX (ks:List Nat) (s s':Ov):Ov:= {f:=s'.f++(ks.map (λk=>(k,SV.any))++s.f),h:=s'.h++s.h,n:=s'.n}
def Ye (b:Bs) (s:Ov):Sh->Cl->List Nat
 | .own _ _,.o l=>match b.obj s l with
  | .sl .. =>[l]
  | _=>[]
 | .pa _,.p l 0=>match b.obj s l with
  | .ab _=>[l]
  | _=>[]
 | _,_=>[]
def Sc (b:Bs) (s:Ov):List Sh->List Cl->List Nat
 | h::r,c::cs=>Ye b s h c++Sc b s r cs
 | _,_=>[]
def CA (a:xz) (b:Bs) (s:Ov):List Nat:=
 (a.jA.flatMap λp=>match b.slot s p.1 with
  | some (.v (.c c))=>Ye b s p.2 c
  | _=>[])++a.yE.flatMap λp=>match p.2,b.obj s p.1 with
  | .cells _ l,.cells _ cs=>Sc b s l cs
  | _,_=>[]
def ou (a:xz) (n0:Nat) (i:a.den):List HO:=(jo a.jA i.1 n0).2++(mf a.yE i.2 (n0+(jo a.jA i.1 n0).2.length)).2
def ll (a:xz) (us:List Nat) (n0:Nat) (i:a.den):Ov:=
 {f:=(jo a.jA i.1 n0).1,h:=Hw n0 (ou a n0 i)++((mf a.yE i.2 (n0+(jo a.jA i.1 n0).2.length)).1++us.map λl=>(l,HO.gone)),n:=n0+(ou a n0 i).length}
def ae3 (a:xz) (ks:List Nat) (n0:Nat) (us0:List Nat) (s':Ov) (us:List Nat):Bool:=
 nt (us++a.yE.map (·.1))&& us.all (λl=>Nat.ble n0 l|| hZ l us0)&& (a.yE.map (·.1)).all (λl=>gn l n0&& !hZ l us0)&& s'.f.all (λp=>hZ p.1 ks)&& s'.h.all (λp=>Nat.ble n0 p.1|| hZ p.1 (a.yE.map (·.1))|| hZ p.1 us0)
def Pq (a:xz) (ks:List Nat) (n0:Nat) (us0:List Nat) (b:Bs) (s':Ov) (k:a.den->Prop):Prop:=match AE b s' a.jA,IQ b s' a.yE with
 | some (x,u),some (y,v)=>if ae3 a ks n0 us0 s' (u++v) then k (x,y) else False
 | _,_=>False
def Ov.force (s:Ov) (K:Ov->Prop):Prop:=iU s.f λf=>iU s.h λh=>K {f:=f,h:=h,n:=s.n}
def Bs.force (b:Bs) (K:Bs->Prop):Prop:=iU b.f λf=>iU b.h λh=>K {f:=f,h:=h}
def Ov.told (s:Ov) (c:Operand) (v:Bool):Ov:=match c with
 | .tmp t=>s.put (some t) (.bool v)
 | _=>s
def ahi (body:Ov->(Ex->Ov->Prop)->Prop) (Q:Ex->Ov->Prop):Nat->Ov->Prop
 | 0,_=>False
 | k+1,s=>s.force λs=>body s λe s'=>match e with
  | .normal=>ahi body Q k s'
  | e=>Q e s'
def lz (X:Vx) (n:Nat) (an:Eo):Code->Bs->Ov->(Ex->Ov->Prop)->Prop
 | .skip,_,s,Q=>Q .normal s
 | .region _ ops draw,b,s,Q=>s.force λs=>v8 X n ops draw b s λs'=>Q .normal s'
 | .seq x y,b,s,Q=>match MJ an.YI (py y) with
  | none=>lz X n an x b s λe s'=>match e with
   | .normal=>lz X n an y b s' Q
   | e=>Q e s'
  | some a=>
   s.force λs=>iU (nE x++a.jA.map (·.1)) λks=>(pH ks b s).force λb1=>
   let us0:=CA a b s
   cV (ι:=a.den) (λk=>lz X n an x b1 (uA ks b s) λe s'=>match e with
     | .normal=>Pq a ks s.n us0 b1 s' k
     | e=>Q e (oX ks s s'))
    (λi=>lz X n an y b1 (ll a us0 s.n i) λe s'=>Q e (oX ks s s'))
 | .cond c x y,b,s,Q=>match fe b s c with
  | some (.v (.c (.k (.bool v))))=>br v (lz X n an x b (s.told c true) Q) (lz X n an y b (s.told c false) Q)
  | _=>False
 | .block id c,b,s,Q=>lz X n an c b s λe s'=>match e with
  | .exit j=>if Nat.beq j id then Q .normal s' else Q (.exit j) s'
  | e=>Q e s'
 | .loop c,b,s,Q=>match ae4 X.unr (py c),MJ an.loops (py c) with
  | some k,_=>ahi (λs q=>lz X n an c b s q) Q k s
  | none,none=>False
  | none,some a=>
   (Df X.cloH b s).force λs=>iU (nE c++a.jA.map (·.1)) λks=>(pH ks b s).force λb1=>
   let us0:=CA a b s
   Pq a ks s.n us0 b1 (uA ks b s) λi0=>
    bp (ι:=a.den) (λi again=>lz X n an c b1 (ll a us0 s.n i) λe s'=>match e with
     | .normal=>Pq a ks s.n us0 b1 s' again
     | e=>Q e (Zw X.sfh b (oX ks s s'))) i0
 | .exit id,_,s,Q=>Q (.exit id) s
 | .ret,_,s,Q=>Q .ret s
 | _,_,_,_=>False
def lC (P:Program) (b:Bs) (s:Ov):List ResultVar->Option (List S1)
 | []=>some []
 | .tmp t::r=>match b.slot s t with
  | some (.v v)=>match lC P b s r with
   | some l=>some (v::l)
   | none=>none
  | _=>none
 | .cell t ty::r=>match b.slot s t with
  | some (.v (.c (.p l off)))=>match b.obj s l with
   | .cells _ cs=>match pT P ty cs off with
    | some v=>match lC P b s r with
     | some q=>some (v::q)
     | none=>none
    | none=>none
   | _=>none
  | _=>none
def pack:List S1->SV
 | [v]=>.v v
 | l=>.cJ l
def aiA (P:Program) (b:Bs) (s:Ov) (rs:List ResultVar) (k:SV->Prop):Prop:=match rs with
 | [.tmp t]=>(match b.slot s t with
  | some (.arr q l)=>k (.arr q l)
  | _=>match lC P b s [.tmp t] with
   | some l=>k (pack l)
   | none=>False)
 | [.cell t ty]=>(match b.slot s t with
  | some (.v (.c c))=>sJ P b s ty c k
  | _=>False)
 | rs=>match lC P b s rs with
  | some l=>k (pack l)
  | none=>False
def aeN (P:Program) (fn:Func) (n0:Nat) (b:Bs) (s:Ov) (Q:SV->List HO->Prop):Prop:=aiA P b s fn.results.toList λr=>
  iU (bN n0++(sb (b.obj s) 1000 (r.labels++(bN n0).flatMap λi=>(b.obj s i).labels) []).filter λl=>Nat.ble n0 l) λls=>
  if nt ls&& ls.all (λl=>gn l s.n) then Q (r.fp (ic ls)) (ls.map λl=>(b.obj s l).fp (ic ls)) else False
def acB (P:Program) (c:Bool) (fn:Func) (n0:Nat) (b:Bs) (s:Ov) (Q:SV->List HO->Prop):Prop:=aeN P fn n0 b (Df c b s) Q
def ME:Code->Bool
 | .rangeFunc .. =>false
 | .seq x y=>ME x&& ME y
 | .cond _ x y=>ME x&& ME y
 | .block _ c| .loop c| .scope c=>ME c
 | _=>true
def OB (X:Vx) (n:Nat) (an:Eo) (p:Nat) (assign body:Code) (e:Ty) (xs:List e.den) (m:Int) (a:xz) (b:Bs) (s:Ov) (Q:Ov->Prop):Prop:=
 s.force λs=>(pH [] b s).force λb1=>
 let us0:=CA a b s
 (1<=m/\m<=1000000000)/\xs.length<=1000000000000/\Pq a [] s.n us0 b1 (uA [] b s) λi0=>
  bp (ι:=Nat×a.den) (λi again=>br (gn (i.1*m.toNat) xs.length)
   (lz X n an assign b1 ((ll a us0 s.n i.2).put (some p) (.c (.d e ((xs.drop (i.1*m.toNat)).take m.toNat)))) λx s2=>match x with
    | .normal=>lz X n an body b1 s2 λx s3=>match x with
     | .normal=>Pq a [] s.n us0 b1 {s3 with f:=[]} λj=>again (i.1+1,j)
     | _=>False
    | _=>False)
   (Q (oX [] s (ll a us0 s.n i.2)))) (0,i0)
def HF (X:Vx) (n:Nat) (an:Eo) (t p:Nat) (assign body:Code) (b:Bs) (s:Ov) (Q:Ov->Prop):Prop:=match b.slot s t with
 | some (.v (.c (.fn f [.p l1 0,.p l2 0])))=>(match Gs X.chk f,b.obj s l1,b.obj s l2,MJ an.loops (py assign) with
  | some e,.cells _ [.d e' xs'],.cells _ [.k (.int .i64 m)],some a=>(match zf e xs',a.jA with
   | some xs,[]=>if !Nat.beq l1 l2&& (ME assign&& ME body&& (gn p n&& qS X.P f)) then OB X n an p assign body e xs m a b ((s.dS l1 .gone).dS l2 .gone) Q else False
   | _,_=>False)
  | _,_,_,_=>False)
 | _=>False
def oa (X:Vx) (n:Nat) (an:Eo) (c:Code) (b:Bs) (s:Ov) (Q:Ex->Ov->Prop):Prop:=match ME c with
 | true=>lz X n an c b s Q
 | false=>match c with
  | .seq x y=>(match MJ an.YI (py y) with
   | none=>oa X n an x b s λe s'=>match e with
    | .normal=>oa X n an y b s' Q
    | e=>Q e s'
   | some _=>False)
  | .block id c=>oa X n an c b s λe s'=>match e with
   | .exit j=>if Nat.beq j id then Q .normal s' else Q (.exit j) s'
   | e=>Q e s'
  | .rangeFunc g ps assign body=>(match g,ps.toList with
   | .tmp t,[p]=>HF X n an t p assign body b s λs'=>Q .normal s'
   | _,_=>False)
  | _=>False
def og:Nat->List SV->Ag
 | _,[]=>[]
 | k,v::r=>(k,v)::og (k+1) r
def acz (X:Vx) (an:Eo) (fn:Func) (args:List SV) (H:List HO) (Q:SV->List HO->Prop):Prop:=match fn.body with
 | none=>False
 | some c=>if Nat.ble args.length fn.ntmps then
   PW args (oa X fn.ntmps an c {f:=og 0 args,h:=H} {f:=[],h:=[],n:=H.length} λe s=>match e with
    | .normal| .ret=>acB X.P X.clo fn H.length {f:=og 0 args,h:=H} s Q
    | .exit _=>False)
  else False

theorem cZ {c:Bool} {p:Prop} (h:if c=true then p else False):c=true/\p:=by
 cases c;cases h;exact ⟨rfl,h⟩
section
variable {b:Bs} {s:Ov}
theorem dN:(b.heap s).length=s.n:=by simp [Bs.heap]
theorem eM {l:Nat} (h:l< s.n):(b.heap s)[l]?=some (b.obj s l):=by
 simp [Bs.heap,ck,nD h]
theorem ja {l k:Nat} {o:HO}:b.obj (s.dS l o) k=if l=k then o else b.obj s k:=by
 unfold Bs.obj Ov.dS;simp only [gC];by_cases e:l=k;subst e;simp;rw [ij e,if_neg e];rfl
theorem je {l:Nat} {o:HO} (h:l< s.n):b.heap (s.dS l o)=(b.heap s).set l o:=by
 apply List.ext_getElem?;intro k;rw [List.getElem?_set];by_cases hk:k< s.n
 .rw [eM (s:=s.dS l o) hk,ja];by_cases e:l=k
  .subst e;simp [dN,h]
  .rw [if_neg e,if_neg e,eM hk]
 .have h1:(b.heap (s.dS l o))[k]?=none:=dx (by rw [dN];show s.n<=k;omega);have h2:(b.heap s)[k]?=none:=dx (by rw [dN];omega);rw [h1,h2];have gx:l≠k:=by omega
  rw [if_neg gx]
theorem tJ {k:Nat} {o:HO}:b.obj (s.new o) k=if s.n=k then o else b.obj s k:=by
 unfold Bs.obj Ov.new;simp only [gC];by_cases e:s.n=k;rw [if_pos e];subst e;simp;rw [ij e,if_neg e];rfl
theorem sQ {o:HO}:b.heap (s.new o)=b.heap s++ [o]:=by
 apply List.ext_getElem?;intro k;by_cases hk:k< s.n;rw [aV (by rw [dN];exact hk),eM hk,eM (s:=s.new o) (by show k< s.n+1;omega),tJ,if_neg (by omega)]
 .rw [a8 (by rw [dN];omega),dN];by_cases e:s.n=k
  .subst e;rw [eM (s:=s.new o) (by show s.n< s.n+1;omega),tJ,if_pos rfl];simp
  .rw [dx (by rw [dN];show s.n+1<=k;omega),dx (by simp;omega)]
end

structure dg (n:Nat) (W:cQ) (F:List Atom) (b:Bs) (E:Env) (g w:World) (s:Ov) (a:Act):Prop where
 size:a.tmps.size=n
 defers:a.defers=W.ds
 fr:∀ t v,b.slot s t=some v->df E g v (a.tmps.getD t undef)
 sat:Sat W E g w (b.heap s) F
 top:∀ l,s.n<=l->b.obj s l= .gone
section
variable {P:Program} {n:Nat} {W:cQ} {F:List Atom} {b:Bs} {E E':Env} {g g' w w':World} {s s':Ov} {a:Act}
theorem dg.len (S:dg n W F b E g w s a):E.length=s.n:=by rw [S.sat.len,dN]
theorem dg.lt (S:dg n W F b E g w s a) {l:Nat} {v:Value} (h:E[l]?=some v):l< s.n:=by
 have:=(au.1 h).1;rw [S.len] at this;exact this
theorem dg.m (S:dg n W F b E g w s a):bx g w:=S.sat.m
theorem dg.le (S:dg n W F b E g w s a) (l:Le w w'):dg n W F b E g w' s a:=⟨S.size,S.defers,S.fr,S.sat.le l,S.top⟩
theorem dg.pick (S:dg n W F b E g w s a) {l:Nat} {v:Value} (h:E[l]?=some v):SL W g w (cF E l (b.obj s l)::dC (bj E 0 (b.heap s)++F) l):=S.sat.pick (eM (S.lt h))
theorem dg.back (S:dg n W F b E g w s a) {l:Nat} {v:Value} (h:E[l]?=some v) (o':HO) (m:bx g g') (H:SL W g' w' (cF E l o'::dC (bj E 0 (b.heap s)++F) l)):dg n W F b E g' w' (s.dS l o') a:=by
 have hl:=S.lt h;refine ⟨S.size,S.defers,λt v hv=>(S.fr t v hv).mono (bw.refl E) m,?_,λk hk=>?_⟩
 .rw [je hl];exact Sat.back (o:=b.obj s l) o' S.sat.len (eM hl) H
 .rw [ja,if_neg (by have:s.n<=k:=hk;omega)];exact S.top k hk
theorem dg.new (S:dg n W F b E g w s a) {o:HO} {v:Value} (m:bx g g') (H:SL W g' w' (cF (E++ [v]) s.n o::(bj E 0 (b.heap s)++F))):dg n W F b (E++ [v]) g' w' (s.new o) a:=by
 refine ⟨S.size,S.defers,λt u hu=>(S.fr t u hu).mono (bw.app E [v]) m,?_,λk hk=>?_⟩
 .rw [sQ];refine Sat.push S.sat.len ?_;rw [dN];exact H
 .rw [tJ,if_neg (by have:s.n+1<=k:=hk;omega)];exact S.top k (by have:s.n+1<=k:=hk;omega)
theorem dg.move (S:dg n W F b E g w s a) {l:Nat} {v u:Value} {o2:HO} (h:E[l]?=some u) (m:bx g g') (H:SL W g' w' (cF (E++ [v]) s.n o2::dC (bj E 0 (b.heap s)++F) l)):dg n W F b (E++ [v]) g' w' ((s.dS l .gone).new o2) a:=by
 have hl:=S.lt h;refine ⟨S.size,S.defers,λt u hu=>(S.fr t u hu).mono (bw.app E [v]) m,?_,λk hk=>?_⟩
 .rw [sQ,je hl];refine Sat.move (o:=b.obj s l) S.sat.len (eM hl) ?_;rw [dN];exact H
 .have vS:s.n+1<=k:=hk;rw [tJ,if_neg (by show ¬s.n=k;omega),ja,if_neg (by omega)];exact S.top k (by omega)
theorem Yn:∀ {v:Value},okB v=true->okV v
 | .int k n,h=>inK_wf.2 h
 | .string s,h=>by
  have h':decide (s.size<=maxLen)=true:=h;simpa [okV] using h'
 | .bool _,_| .float ..,_| .complex ..,_| .pointer _,_| .slice ..,_| .map _,_| .chan _,_| .func ..,_| .nilFunc,_| .iface ..,_| .nilIface,_=>rfl
 | .agg _,h=>h
 | .tuple _,h=>h
theorem kY:∀ {us:List Value} {l:List Cl},ua us=some l->bA E g l us
 | [],l,h=>by
  obtain rfl: []=l:=aj h;exact bA.nil
 | v::r,l,h=>by
  unfold ua at h;split at h
  .rename_i hv;split at h
   .rename_i q hq;obtain rfl: .k v::q=l:=aj h;exact bA.cons ⟨rfl,Yn hv⟩ (kY hq)
   .cases h
  .cases h
theorem GY {v:Value} {sv:SV} (h:JB v=some sv):df E g sv v:=by
 unfold JB at h;split at h
 .rename_i cs;split at h
  .rename_i l hl;obtain rfl:SV.v (.agg l)=sv:=aj h;exact ⟨cs.toList,kY hl,by simp⟩
  .cases h
 .split at h
  .rename_i hk;obtain rfl:SV.k v=sv:=aj h;exact ⟨rfl,Yn hk⟩
  .cases h
theorem dg.fe (S:dg n W F b E g w s a) {x:Operand} {v:SV} (h:Lm.fe b s x=some v):df E g v (a.eval x):=by
 cases x with
 | tmp t=>exact S.fr t v h
 | const u=>exact GY h
 | func f=>
  obtain rfl:SV.c (.fn f [])=v:=aj h;exact ⟨[],bA.nil,rfl⟩
 | global _=>cases h
theorem gS {k:IntKind} {m:Int} {u:Value} (h:df E g (.v (.c (.k (.int k m)))) u):u= .int k m/\aF k m:=h
theorem dB {k:IntKind} {m:Int} (h:aF k m):df E g (.v (.c (.k (.int k m)))) (.int k m):=⟨rfl,h⟩
theorem gf (q:Bool):df E g (.bool q) (.bool q):=⟨rfl,rfl⟩
theorem eu (k:IntKind) (z:Int):aF k (k.wrap z):=by
 cases k<;>simp [aF,IntKind.wrap,eH,gY]<;>refine ⟨?_,?_⟩<;>(try split)<;>omega
theorem pF {k:IntKind} {z:Int} (h:aF k z):k.wrap z=z:=oW (inK_wf.1 h)
theorem Lz {k:IntKind} {x y:Int} (h:aF k x):aF k (x.tmod y):=by
 have h1:0<=x->0<=x.tmod y/\x.tmod y<=x:=λh=>⟨Int.tmod_nonneg y h,by
  have:=Int.tmod_add_mul_tdiv x y;rcases Int.lt_or_le y 0 with hy| hy
  .have hq:x.tdiv y<=0:=Int.tdiv_nonpos_of_nonneg_of_nonpos h (by omega);have:0<=y*x.tdiv y:=Int.mul_nonneg_of_nonpos_of_nonpos (by omega) hq;omega
  .have hq:0<=x.tdiv y:=Int.tdiv_nonneg h hy;have:0<=y*x.tdiv y:=Int.mul_nonneg hy hq;omega⟩
 rcases Int.lt_or_le x 0 with hx| hx
 .have h2:x.tmod y= -((-x).tmod y):=by rw [Int.neg_tmod];omega
  have h3:0<=(-x).tmod y/\(-x).tmod y<= -x:=by
   refine ⟨Int.tmod_nonneg y (by omega),?_⟩;have:=Int.tmod_add_mul_tdiv (-x) y;rcases Int.lt_or_le y 0 with hy| hy
   .have hq:(-x).tdiv y<=0:=Int.tdiv_nonpos_of_nonneg_of_nonpos (by omega) (by omega);have:0<=y*(-x).tdiv y:=Int.mul_nonneg_of_nonpos_of_nonpos (by omega) hq;omega
   .have hq:0<=(-x).tdiv y:=Int.tdiv_nonneg (by omega) hy;have:0<=y*(-x).tdiv y:=Int.mul_nonneg hy hq;omega
  cases k<;>simp only [aF] at h ⊢ <;>omega
 .have:=h1 hx;cases k<;>simp only [aF] at h ⊢ <;>omega
theorem Nd {k:IntKind} {x:Int} {m:Nat} (h:aF k x):aF k (x.fdiv (2 ^ m)):=by
 have hp:(1:Int)<=2 ^ m:=by
  have:(0:Int)< 2 ^ m:=Int.pow_pos (by decide);omega
 have e:x.fdiv (2 ^ m)=x / 2 ^ m:=Int.fdiv_eq_ediv_of_nonneg x (by omega);rw [e];generalize (2:Int) ^ m=p at hp;have hd:=Int.mul_ediv_add_emod x p;have h0:=Int.emod_nonneg x (show p≠0 by omega);have h1:=Int.emod_lt_of_pos x (show 0< p by omega);rcases Int.lt_or_le x 0 with hx| hx
 .have hq:x / p< 0:=Int.ediv_neg_of_neg_of_pos hx (by omega);have:x<=x / p:=by
   have h2:p*(x / p)<=1*(x / p):=Int.mul_le_mul_of_nonpos_right hp (by omega);have h3:x< p*(x / p)+p:=by omega
   rcases Int.lt_or_le (x / p) x with h4| h4
   .exfalso
    have h5:x / p+1<=x:=by omega
    have h6:p*(x / p)<=x:=by omega
    have h7:p*(x / p+1)<=1*(x / p+1):=Int.mul_le_mul_of_nonpos_right hp (by omega);rw [Int.mul_add,Int.mul_one] at h7;omega
   .exact h4
  cases k<;>simp only [aF] at h ⊢ <;>omega
 .have hq:0<=x / p:=Int.ediv_nonneg hx (by omega);have:x / p<=x:=Int.ediv_le_self p hx;cases k<;>simp only [aF] at h ⊢ <;>omega
end
theorem PZ {P:Program} {w:World} {d n:Nat} {xs ys:Array Value} {f:Field} {fs:List Field} {gs:Array Field} {a b:Bool} (hn:(f.name != "_")=true) (hu:P.underlying f.type=some (.struct gs)) (hi:((P.info? f.type).map (·.size))=some n) (hp:P.stoodInHeld f.type=false)
  (hx:(Op.eqFields d (xs.extract f.offset (f.offset+n)) (ys.extract f.offset (f.offset+n)) gs.toList).run P w= .ok a w) (hr:(Op.eqFields (d+1) xs ys fs).run P w= .ok b w):(Op.eqFields (d+1) xs ys (f::fs)).run P w= .ok (a&& b) w:=by
 have hp1:∀ cs:Array Value,(part f.type cs f.offset).run P w= .ok (.agg (cs.extract f.offset (f.offset+n))) w:=λcs=>by
  cases hq:P.info? f.type with
  | none=>simp [hq] at hi
  | some i=>
   simp [hq] at hi;subst hi;simp [part,isAgg,sizeOf,typeInfo,run_underlying hu,go_sem,hq]
 have gx:f.name≠ "_" :=by simpa using hn
 have hfs:P.fieldsOf f.type=gs:=by unfold Program.fieldsOf;rw [hu]
 have he:=run_equalIn_struct (P:=P) w d f.type (xs.extract f.offset (f.offset+n)) (ys.extract f.offset (f.offset+n)) (by rw [hfs];exact hu) hp;rw [hfs,hx] at he;simp only [Op.eqFields,if_pos gx,Sem.run_bind,hp1,Result.andThen_ok,he];cases a;simp [go_sem];simp [hr]
theorem adN {P:Program} {w:World} {d:Nat} {xs ys:Array Value} {f:Field} {fs:List Field} {m n:ByteArray} {b:Bool} (hn:(f.name != "_")=true) (hu:P.underlying f.type=some .string) (hi:((P.info? f.type).map (·.size))=some 1)
  (hx:xs[f.offset]?=some (.string m)) (hy:ys[f.offset]?=some (.string n)) (hr:(Op.eqFields (d+1) xs ys fs).run P w= .ok b w):(Op.eqFields (d+1) xs ys (f::fs)).run P w= .ok ((m.toList==n.toList)&& b) w:=by
 have hpx:(part f.type xs f.offset).run P w= .ok (.string m) w:=by
  cases hq:P.info? f.type with
  | none=>simp [hq] at hi
  | some i=>simp [part,isAgg,run_underlying hu,go_sem,hx]
 have YV:(part f.type ys f.offset).run P w= .ok (.string n) w:=by
  cases hq:P.info? f.type with
  | none=>simp [hq] at hi
  | some i=>simp [part,isAgg,run_underlying hu,go_sem,hy]
 have gx:f.name≠ "_" :=by simpa using hn
 have he:(Op.equalIn (d+1) f.type (.string m) (.string n)).run P w= .ok (m.toList==n.toList) w:=by
  simp [Op.equalIn,run_underlying hu,go_sem,beq_toListBytes]
 simp only [Op.eqFields,if_pos gx,Sem.run_bind,hpx,YV,Result.andThen_ok,he];cases hb:m.toList==n.toList;simp [go_sem];simp [hr]
theorem Zi {P:Program} {w:World} {d:Nat} {xs ys:Array Value} {f:Field} {fs:List Field} {m n:Bool} {b:Bool} (hn:(f.name != "_")=true) (hu:P.underlying f.type=some .bool) (hi:((P.info? f.type).map (·.size))=some 1)
  (hx:xs[f.offset]?=some (.bool m)) (hy:ys[f.offset]?=some (.bool n)) (hr:(Op.eqFields (d+1) xs ys fs).run P w= .ok b w):(Op.eqFields (d+1) xs ys (f::fs)).run P w= .ok ((m==n)&& b) w:=by
 have hpx:(part f.type xs f.offset).run P w= .ok (.bool m) w:=by
  cases hq:P.info? f.type with
  | none=>simp [hq] at hi
  | some i=>simp [part,isAgg,run_underlying hu,go_sem,hx]
 have YV:(part f.type ys f.offset).run P w= .ok (.bool n) w:=by
  cases hq:P.info? f.type with
  | none=>simp [hq] at hi
  | some i=>simp [part,isAgg,run_underlying hu,go_sem,hy]
 have gx:f.name≠ "_" :=by simpa using hn
 have he:(Op.equalIn (d+1) f.type (.bool m) (.bool n)).run P w= .ok (m==n) w:=by
  simp [Op.equalIn,run_underlying hu,go_sem]
 simp only [Op.eqFields,if_pos gx,Sem.run_bind,hpx,YV,Result.andThen_ok,he];cases hb:m==n;simp [go_sem];simp [hr]

def Out (n:Nat) (W:cQ) (F:List Atom) (b:Bs) (E:Env) (g:World) (a:Act) (K:SV->Ov->Prop) (v:Value) (w':World):Prop:=
 ∃ E' g' s' sv,bw E E'/\bx g g'/\dg n W F b E' g' w' s' a/\df E' g' sv v/\K sv s'
def k8 (P:Program) (o:Oper) (a:Act) (w:World) (R:Value->World->Prop):Prop:=
 (∃ v w',(execOp a.eval o).run P w= .ok (.value v) w'/\R v w')\/(∃ w',(execOp a.eval o).run P w= .ok .skip w'/\R undef w')\/(∃ f args,(execOp a.eval o).run P w= .ok (.enter f args) w/\Hs P f args w R)
def PR (P:Program) (m:Sem Value) (w:World) (E:Env) (g:World) (K:SV->Prop):Prop:=∃ v sv,m.run P w= .ok v w/\df E g sv v/\K sv
section
variable {P:Program} {n:Nat} {W:cQ} {F:List Atom} {b:Bs} {E:Env} {g w:World} {s:Ov} {a:Act} {K:SV->Prop}
theorem LS {op:BinOp} {k:IntKind} {x y:Int} {t:TypeId} (hx:aF k x) (h:PE op k x y K):PR P (binOp op t (.int k x) (.int k y)) w E g K:=by
 have ar:∀ {z:Int},arith k z K->PR P (pure (Value.int k (k.wrap z))) w E g K:=λ{z} h=>by
  cases k<;>first
   | exact ⟨_,_,rfl,dB (eu _ z),h (eu _ z)⟩
   | exact ⟨_,_,by rw [pF (k:=.i64) h.1];rfl,dB h.1,h.2⟩
 cases op
 case add=>
  have e:(binOp .add t (.int k x) (.int k y))=pure (Value.int k (k.wrap (x+y))):=by simp [binOp,Op.intArith]
  rw [e];exact ar h
 case sub=>
  have e:(binOp .sub t (.int k x) (.int k y))=pure (Value.int k (k.wrap (x - y))):=by simp [binOp,Op.intArith]
  rw [e];exact ar h
 case mul=>
  have e:(binOp .mul t (.int k x) (.int k y))=pure (Value.int k (k.wrap (x*y))):=by simp [binOp,Op.intArith]
  rw [e];exact ar h
 case quo=>
  obtain ⟨hy,h⟩:=h;have e:(binOp .quo t (.int k x) (.int k y))=pure (Value.int k (k.wrap (x.tdiv y))):=by simp [binOp,Op.intDiv,hy]
  rw [e];exact ar h
 case rem=>
  obtain ⟨hy,h⟩:=h;have e:(binOp .rem t (.int k x) (.int k y))=pure (Value.int k (x.tmod y)):=by simp [binOp,Op.intDiv,hy]
  rw [e];exact ⟨_,_,rfl,dB (Lz hx),h (Lz hx)⟩
 case shl=>exact h.elim
 case shr=>exact h.elim
 case and=>
  have e:(binOp .and t (.int k x) (.int k y))=pure (Value.int k (dc .and k x y)):=by simp [binOp,Op.intBits,dc]
  rw [e];exact ⟨_,_,rfl,dB (eu _ _),h (eu _ _)⟩
 case or=>
  have e:(binOp .or t (.int k x) (.int k y))=pure (Value.int k (dc .or k x y)):=by simp [binOp,Op.intBits,dc]
  rw [e];exact ⟨_,_,rfl,dB (eu _ _),h (eu _ _)⟩
 case xor=>
  have e:(binOp .xor t (.int k x) (.int k y))=pure (Value.int k (dc .xor k x y)):=by simp [binOp,Op.intBits,dc]
  rw [e];exact ⟨_,_,rfl,dB (eu _ _),h (eu _ _)⟩
 case andNot=>
  have e:(binOp .andNot t (.int k x) (.int k y))=pure (Value.int k (dc .andNot k x y)):=by simp [binOp,Op.intBits,dc]
  rw [e];exact ⟨_,_,rfl,dB (eu _ _),h (eu _ _)⟩
 all_goals exact ⟨_,_,by simp [binOp,Op.intCmp],gf _,h⟩
theorem XQ {op:BinOp} {x y:ByteArray} {t:TypeId} (h:Uv op x y K):PR P (binOp op t (.string x) (.string y)) w E g K:=by
 cases op<;>try exact h.elim
 case add=>
  have e:(binOp .add t (.string x) (.string y))=pure (Value.string (x++y)):=by
   have h1:¬((x.size+y.size:Nat):Int)>IntKind.i64.max:=by
    have:=h.1;simp [kc,eH,gY];omega
   simp only [binOp,Op.stringOp,if_neg h1]
  rw [e];refine ⟨_,.str (x++y),rfl,⟨rfl,?_⟩,h.2⟩;have:=h.1;show (x++y).size<=maxLen;rw [ByteArray.size_append];exact this
 all_goals exact ⟨_,_,by simp [binOp,Op.stringOp];rfl,gf _,h⟩
theorem LR {wr:Bool} {op:BinOp} {k:IntKind} {x y:Int} {t:TypeId} (hx:aF k x) (h:Jh wr op k x y K):PR P (binOp op t (.int k x) (.int k y)) w E g K:=by
 unfold Jh at h;split at h
 .split at h
  .have e:(binOp .add t (.int .i64 x) (.int .i64 y))=pure (Value.int .i64 (IntKind.wrap .i64 (x+y))):=by simp [binOp,Op.intArith]
   rw [e];exact ⟨_,_,rfl,dB (eu _ _),h (eu _ _)⟩
  .have e:(binOp .sub t (.int .i64 x) (.int .i64 y))=pure (Value.int .i64 (IntKind.wrap .i64 (x - y))):=by simp [binOp,Op.intArith]
   rw [e];exact ⟨_,_,rfl,dB (eu _ _),h (eu _ _)⟩
  .have e:(binOp .mul t (.int .i64 x) (.int .i64 y))=pure (Value.int .i64 (IntKind.wrap .i64 (x*y))):=by simp [binOp,Op.intArith]
   rw [e];exact ⟨_,_,rfl,dB (eu _ _),h (eu _ _)⟩
  .exact LS hx h
 .exact LS hx h
theorem Mp {e:TypeId} {k0:IntKind} (hu:P.underlying e=some (.int k0)) (hi:((P.info? e).map (·.size))=some 1) {cs:Array Value} {j:Nat} {v:Value} (hx:cs[j]?=some v):(part e cs j).run P w= .ok v w:=by
 cases hq:P.info? e with
 | none=>simp [hq] at hi
 | some i=>simp [part,isAgg,run_underlying hu,go_sem,hx]
theorem BW {d:Nat} {e:TypeId} {k0:IntKind} (hu:P.underlying e=some (.int k0)) (hi:((P.info? e).map (·.size))=some 1):∀ {xs ys:List Cl} {us vs pu pv:List Value} {r:Bool},yP k0 xs ys=some r->bA E g xs us->bA E g ys vs->pu.length=pv.length->(Op.eqItems (d+1) e 1 (pu++us).toArray (pv++vs).toArray (List.range' pu.length xs.length)).run P w= .ok r w
 | [],[],us,vs,pu,pv,r,h,_,_,_=>by
  obtain rfl:true=r:=aj h;rfl
 | [],_::_,_,_,_,_,_,h,_,_,_=>by simp [yP] at h
 | _::_,[],_,_,_,_,_,h,_,_,_=>by simp [yP] at h
 | x::xs,y::ys,us,vs,pu,pv,r,h,⟨u,tu,e1,h1,h2⟩,⟨v,vs',e2,h3,h4⟩,hl=>by
  unfold yP at h;split at h
  .rename_i q1 _;exact absurd q1 (by simp)
  .rename_i k m l k' m' l' q1 q2;obtain ⟨rfl,rfl⟩:=List.cons.inj q1;obtain ⟨rfl,rfl⟩:=List.cons.inj q2;split at h
   .rename_i hk;rw [ao] at hk;obtain rfl:=IntKind.eq_of_beq hk.1;obtain rfl:=IntKind.eq_of_beq hk.2;split at h
    .rename_i q hq;obtain rfl:=aj h;obtain ⟨rfl,_⟩:=h1;obtain ⟨rfl,_⟩:=h3;subst e1 e2;have ih:=BW (d:=d) (pu:=pu++ [.int k0 m]) (pv:=pv++ [.int k0 m']) hu hi hq h2 h4 (by simp [hl]);rw [aG,aG,af] at ih;have hx:(pu++Value.int k0 m::tu).toArray[pu.length*1]?=some (.int k0 m):=by simp
     have hy:(pv++Value.int k0 m'::vs').toArray[pu.length*1]?=some (.int k0 m'):=by simp [hl]
     have hpx:=Mp (w:=w) hu hi hx;have YV:=Mp (w:=w) hu hi hy;have he:(Op.equalIn (d+1) e (.int k0 m) (.int k0 m')).run P w= .ok (m==m') w:=by
      simp [Op.equalIn,run_underlying hu,go_sem]
     show (Op.eqItems (d+1) e 1 (pu++Value.int k0 m::tu).toArray (pv++Value.int k0 m'::vs').toArray (pu.length::List.range' (pu.length+1) xs.length)).run P w=_;simp only [Op.eqItems,Sem.run_bind,hpx,YV,Result.andThen_ok,he];cases hb:m==m';simp [go_sem];simpa using ih
    .cases h
   .cases h
  .cases h
theorem FR {d:Nat} {t e:TypeId} {n:Nat} {xs ys:List Cl} {us vs:List Value} {r:Bool} (ht:P.underlying t=some (.array n e)) (h:Zk P n e xs ys=some r) (hx:bA E g xs us) (hy:bA E g ys vs):(Op.equalIn (d+2) t (.agg us.toArray) (.agg vs.toArray)).run P w= .ok r w:=by
 unfold Zk at h;split at h
 .rename_i k0 i hu hi;split at h
  .rename_i hs;rw [ao] at hs;have h1:=ai hs.1;have h2:=ai hs.2;have hc:P.cellsOf e=1:=by unfold Program.cellsOf;rw [hi];exact h1
   rw [run_equalIn_array w (d+1) us.toArray vs.toArray ht hi,hc,<-h2,List.range_eq_range'];exact BW (pu:=[]) (pv:=[]) hu (by rw [hi];exact congrArg some h1) h hx hy rfl
  .cases h
 .cases h
theorem oh:∀ (fuel:Nat) {fs:List Field} {xs ys:List Cl} {us vs:List Value} {r:Bool} {d:Nat},Ju P fuel fs xs ys=some r->bA E g xs us->bA E g ys vs->fuel<=d->(Op.eqFields d us.toArray vs.toArray fs).run P w= .ok r w
 | 0,_,_,_,_,_,_,_,h,_,_,_=>by simp [Ju] at h
 | f+1,[],_,_,_,_,r,d,h,_,_,hd=>by
  obtain rfl:true=r:=aj h;obtain ⟨d,rfl⟩:∃ k,d=k+1:=⟨d - 1,by omega⟩;exact adO
 | fu+1,f::fs,xs,ys,us,vs,r,d,h,hx,hy,hd=>by
  obtain ⟨d,rfl⟩:∃ k,d=k+1:=⟨d - 1,by omega⟩;unfold Ju at h;split at h
  .rename_i hn;split at h
   .rename_i k i hu hi;split at h
    .rename_i kr;have YS:(P.info? f.type).map (·.size)=some 1:=by rw [hi];exact congrArg some (ai kr)
     split at h
     .rename_i k1 m k2 m2 hax hay;split at h
      .rename_i hk;rw [ao] at hk;obtain rfl:=IntKind.eq_of_beq hk.1;obtain rfl:=IntKind.eq_of_beq hk.2;split at h
       .rename_i q hq;obtain rfl:=aj h;obtain ⟨u,h1,h2,h3⟩:=hx.get hax;obtain ⟨v,h4,h5,h6⟩:=hy.get hay;subst h2;subst h5;exact adP hn hu YS (by simpa using h1) (by simpa using h4) (oh fu hq hx hy (by omega))
       .cases h
      .cases h
     .cases h
    .cases h
   .rename_i i hu hi;split at h
    .rename_i kr;have YS:(P.info? f.type).map (·.size)=some 1:=by rw [hi];exact congrArg some (ai kr)
     split at h
     .rename_i m m2 hax hay;split at h
      .rename_i q hq;obtain rfl:=aj h;obtain ⟨u,h1,h2,h3⟩:=hx.get hax;obtain ⟨v,h4,h5,h6⟩:=hy.get hay;subst h2;subst h5;exact Zi hn hu YS (by simpa using h1) (by simpa using h4) (oh fu hq hx hy (by omega))
      .cases h
     .cases h
    .cases h
   .rename_i i hu hi;split at h
    .rename_i kr;have YS:(P.info? f.type).map (·.size)=some 1:=by rw [hi];exact congrArg some (ai kr)
     split at h
     .rename_i m m2 hax hay;split at h
      .rename_i q hq;obtain rfl:=aj h;obtain ⟨u,h1,h2,h3⟩:=hx.get hax;obtain ⟨v,h4,h5,h6⟩:=hy.get hay;subst h2;subst h5;exact adN hn hu YS (by simpa using h1) (by simpa using h4) (oh fu hq hx hy (by omega))
      .cases h
     .cases h
    .cases h
   .rename_i gs i hu hi;split at h
    .cases h
    .rename_i hp;split at h
     .rename_i q1 hq1;split at h
      .rename_i q hq;obtain rfl:=aj h;refine PZ hn hu (by rw [hi];rfl) (by simpa using hp) ?_ (oh fu hq hx hy (by omega));have:=oh fu (d:=d) hq1 ((hx.drop f.offset).take i.size) ((hy.drop f.offset).take i.size) (by omega);rw [show (us.toArray.extract f.offset (f.offset+i.size))=((us.drop f.offset).take i.size).toArray by rw [List.extract_toArray,List.extract_eq_take_drop,Nat.add_sub_cancel_left],
        show (vs.toArray.extract f.offset (f.offset+i.size))=((vs.drop f.offset).take i.size).toArray by rw [List.extract_toArray,List.extract_eq_take_drop,Nat.add_sub_cancel_left]]
       exact this
      .cases h
     .cases h
   .cases h
  .cases h
def iB:Value->Bool
 | .pointer none| .slice none _ _| .map none| .nilFunc| .nilIface=>true
 | _=>false
def rU (d:Option TypeDesc) (u:Value):Bool:=match d,u with
 | some (.pointer _),.pointer _=>true
 | some (.slice _),.slice _ _ _=>true
 | some (.map _ _),.map _=>true
 | some (.func _ _ _),.nilFunc| some (.func _ _ _),.func .. =>true
 | some (.interface _),.nilIface| some (.interface _),.iface .. =>true
 | _,_=>false
theorem nR {e:Ty} {v:Value} {x:List e.den} (h:nY e g v x):∃ a n c,v= .slice a n c/\(a=none->x= []):=by
 rcases (@dv e.den e.rep g v x).1 h with ⟨h1,h2⟩| ⟨a,c,h1,_⟩;exact ⟨none,0,0,h1,λ_=>h2⟩;exact ⟨some a,_,c,h1,λh=>by cases h⟩
theorem My {d:Option TypeDesc} {x:Cl} {u:Value} (h:Yo d x=true) (r:cr E g x u):rU d u=true:=by
 unfold Yo at h;split at h<;>first| (cases h;done)| skip
 .obtain ⟨rfl,_⟩:=r;rfl
 .obtain ⟨b,_,rfl⟩:=r;rfl
 .obtain ⟨h0,v,h1,h2⟩:=r;obtain ⟨cs,h3,_⟩:=Ab h1 h0.1 h0.2.1;obtain ⟨q,hq,_⟩:=h3 g (bx.refl g);rw [h2,hq];rfl
 .obtain ⟨v,_,_,q,rfl⟩:=r;rfl
 .obtain ⟨rfl,_⟩:=r;rfl
 .obtain ⟨q,n,c,rfl,_⟩:=nR r;rfl
 .obtain ⟨_,q,n,c,rfl⟩:=r;rfl
 .obtain ⟨rfl,_⟩:=r;rfl
 .obtain ⟨b,_,rfl⟩:=r;rfl
 .obtain ⟨rfl,_⟩:=r;rfl
 .obtain ⟨us,_,rfl⟩:=r;rfl
 .obtain ⟨rfl,_⟩:=r;rfl
 .obtain ⟨v,_,rfl⟩:=r;rfl
theorem Gj {d:Option TypeDesc} {y:Cl} {v:Value} (h:Gk d y=true) (r:cr E g y v):rU d v=true/\iB v=true:=by
 unfold Gk at h;split at h<;>first| (cases h;done)| skip
 all_goals
  obtain ⟨rfl,_⟩:=r;exact ⟨rfl,rfl⟩
theorem Nk {t:TypeId} {u v:Value} (k:Nat) (hu:rU (P.underlying t) u=true) (hv:rU (P.underlying t) v=true) (hn:iB v=true):
  (Op.equalIn (k+1) t u v).run P w= .ok (iB u) w/\(Op.equalIn (k+1) t v u).run P w= .ok (iB u) w:=by
 cases hd:P.underlying t with
 | none=>rw [hd] at hu;cases u<;>cases hu
 | some d=>
  rw [hd] at hu hv;cases d<;>(try (cases u<;>cases hu;done))<;>cases u<;>(try (cases hu;done))<;>cases v<;>(try (cases hv;done))<;>(try (cases hn;done))
  case pointer.pointer.pointer e p q=>
   cases q with
   | some q=>cases hn
   | none=>cases p<;>constructor<;>simp [Op.equalIn,run_underlying hd,iB]
  case slice.slice.slice e p n c q n' c'=>
   cases q with
   | some q=>cases hn
   | none=>cases p<;>constructor<;>simp [Op.equalIn,run_underlying hd,iB]
  case map.map.map k e p q=>
   cases q with
   | some q=>cases hn
   | none=>cases p<;>constructor<;>simp [Op.equalIn,run_underlying hd,iB]
  all_goals constructor<;>simp [Op.equalIn,run_underlying hd,iB]
theorem Vs {t:TypeId} {u v:Value} (hu:rU (P.underlying t) u=true) (hv:rU (P.underlying t) v=true) (hn:iB v=true):
  (Op.equal t u v).run P w= .ok (iB u) w/\(Op.equal t v u).run P w= .ok (iB u) w:=Nk 9999 hu hv hn
end
section
variable {P:Program} {n:Nat} {W:cQ} {F:List Atom} {b:Bs} {E:Env} {g w:World} {s:Ov} {a:Act} {K:SV->Prop}
theorem GJ {op:BinOp} {t:TypeId} {ox oy:Operand} {u v:Value} (hu:rU (P.underlying t) u=true) (hc:u= .nilIface->v= .nilIface->(isConst ox|| isConst oy)=true):(eqGuard op t ox oy u v).run P w= .ok () w:=by
  unfold eqGuard;cases op<;>simp<;>cases u<;>(try rfl)<;>cases v<;>(try rfl)
  all_goals first
    | (cases hd:P.underlying t with
       | none=>rw [hd] at hu;cases hu
       | some d=>rw [hd] at hu;cases d<;>cases hu)
    | (have:=hc rfl rfl
       cases ox<;>cases oy<;>simp [isConst] at this ⊢)
theorem TE {op:BinOp} {t:TypeId} {ox oy:Operand} {u v:Value} {e:Bool} (he:isEq op=some e) (hu:rU (P.underlying t) u=true) (hv:rU (P.underlying t) v=true) (hn:iB v=true)
  (hc:u= .nilIface->v= .nilIface->(isConst ox|| isConst oy)=true):
  (do eqGuard op t ox oy u v;binOp op t u v:Sem Value).run P w= .ok (.bool (if e then iB u else !iB u)) w/\(do eqGuard op t ox oy v u;binOp op t v u:Sem Value).run P w= .ok (.bool (if e then iB u else !iB u)) w:=by
 obtain ⟨h1,h2⟩:=Vs (P:=P) (w:=w) hu hv hn;have g1:=GJ (op:=op) (ox:=ox) (oy:=oy) (w:=w) hu hc;have g2:=GJ (P:=P) (op:=op) (ox:=ox) (oy:=oy) (w:=w) (u:=v) (v:=u) hv λa b=>hc b a;have b1:∀ x y:Value,rU (P.underlying t) x=true->rU (P.underlying t) y=true->binOp .eql t x y=(do pure (.bool (<-Op.equal t x y)))/\binOp .neq t x y=(do pure (.bool (!(<-Op.equal t x y)))):=λx y hx hy=>by
  cases hd:P.underlying t with
  | none=>rw [hd] at hx;cases x<;>cases hx
  | some d=>
   rw [hd] at hx hy;cases d<;>(try (cases x<;>cases hx;done))<;>cases x<;>(try (cases hx;done))<;>cases y<;>(try (cases hy;done))<;>exact ⟨rfl,rfl⟩
 unfold isEq at he;cases op<;>cases he;exact ⟨by rw [Sem.run_bind,g1,Result.andThen_ok,(b1 u v hu hv).1,Sem.run_bind,h1];rfl,by rw [Sem.run_bind,g2,Result.andThen_ok,(b1 v u hv hu).1,Sem.run_bind,h2];rfl⟩;exact ⟨by rw [Sem.run_bind,g1,Result.andThen_ok,(b1 u v hu hv).2,Sem.run_bind,h1];rfl,by rw [Sem.run_bind,g2,Result.andThen_ok,(b1 v u hv hu).2,Sem.run_bind,h2];rfl⟩
theorem HM {e:Ty} {t:TypeId} {v:Value} {xs:List e.den} {l:List Atom} (H:SL W g w (pj e t v xs::l)):(∃ q m c,v= .slice q m c/\(q=none->xs= [])):=by
 letI:=e.rep;have h:=SL.aeP (α:=e.den) H;rcases dv.1 h with ⟨h1,h2⟩| ⟨q,c,h1,_⟩;exact ⟨none,0,0,h1,λ_=>h2⟩;exact ⟨some q,_,c,h1,λh=>by cases h⟩
theorem jN (S:dg n W F b E g w s a) {l:Nat} {v:Value} (h:E[l]?=some v) {t:TypeId} {e:Ty} {xs:List e.den} (ho:b.obj s l= .sl t e xs):SL W g w (pj e t v xs::dC (bj E 0 (b.heap s)++F) l):=by
 have H:=S.pick h;rw [ho] at H;refine H.cz λk ⟨h1,h2,ap,q,⟨u,s1,s2⟩,s3⟩=>⟨h1,h2,ap,q,?_,s3⟩;rw [h] at s1;obtain rfl:=aj s1;exact s2
theorem lP (S:dg n W F b E g w s a) {l:Nat} {v:Value} (h:E[l]?=some v) {t:TypeId} {e:Ty} {xs:List e.den} (ho:b.obj s l= .held t e xs):nY e g v xs:=by
 have H:=S.pick h;rw [ho] at H;obtain ⟨k,_,_,_,h1,h2,ap,q,⟨u,s1,s2⟩,s3⟩:=H;rw [h] at s1;obtain rfl:=aj s1;exact s2
theorem oM (S:dg n W F b E g w s a) {l:Nat} {bb:Nat} (h:E[l]?=some (ptr bb 0)) {t:TypeId} {cs:List Cl} (ho:b.obj s l= .cells t cs):∃ us,bA E g cs us/\Ht w bb us.toArray t/\SL W g w (oP bb us.toArray t::dC (bj E 0 (b.heap s)++F) l):=by
 have H:=S.pick h;rw [ho] at H;obtain ⟨k,be,se,ow,h1,h2,ap,q,⟨b',us,s1,s2,s3⟩,s4⟩:=H;rw [h] at s1;have:bb=b':=by
  have:=aj s1;simp [ptr] at this;exact this
 subst this;have H':SL W g w (oP bb us.toArray t::dC (bj E 0 (b.heap s)++F) l):=⟨k,be,se,ow,h1,h2,ap,q,s3,s4⟩;exact ⟨us,s2,H'.Eg.2.1,H'⟩
theorem Sj (S:dg n W F b E g w s a) {d:Option TypeDesc} {x:Cl} {u:Value} {Jx e:Bool} (ht:Yo d x=true) (r:cr E g x u) (h:ade b s Jx x e K):K (.bool (if e then iB u else !iB u))/\(u= .nilIface->Jx=true):=by
  unfold ade at h;split at h
  · rename_i hn
    unfold Si at hn;split at hn<;>(try (cases hn;done))
    all_goals first
      | (obtain ⟨rfl,_⟩:=r
         simp only [isIface,Bool.true_and,mI,eR,if_false] at h
         first
           | (cases Jx
              · simp at h
              · simp only [Bool.not_true,eR,if_false] at h
                cases e<;>exact ⟨h,λ_=>rfl⟩)
           | (cases e<;>exact ⟨h,λq=>by cases q⟩))
      | (split at hn<;>cases hn)
  · rename_i hn
    have hv:iB u=false/\u≠ .nilIface:=by
      unfold Si at hn;split at hn<;>(try (cases hn;done))
      · obtain ⟨_,_,rfl⟩:=r;exact ⟨rfl,λq=>by cases q⟩
      · obtain ⟨h0,v,h1,h2⟩:=r
        obtain ⟨cs,h3,_⟩:=Ab h1 h0.1 h0.2.1;obtain ⟨q,hq,_⟩:=h3 g (bx.refl g);rw [h2,hq];exact ⟨rfl,λq=>by cases q⟩
      · obtain ⟨v,_,_,q,rfl⟩:=r;exact ⟨rfl,λq=>by cases q⟩
      · obtain ⟨_,_,rfl⟩:=r;exact ⟨rfl,λq=>by cases q⟩
      · obtain ⟨_,_,rfl⟩:=r;exact ⟨rfl,λq=>by cases q⟩
      · obtain ⟨_,_,rfl⟩:=r;exact ⟨rfl,λq=>by cases q⟩
      · split at hn<;>cases hn
    rw [hv.1];exact ⟨by cases e<;>exact h,λq=>absurd q hv.2⟩
  · rename_i p hn
    have hv:(iB u=true->p)/\u≠ .nilIface:=by
      unfold Si at hn;split at hn<;>(try (cases hn;done))
      · cases hn
        obtain ⟨q,m,c,rfl,hq⟩:=nR r;exact ⟨λhz=>hq (by cases q<;>first| rfl| cases hz),λq=>by cases q⟩
      · split at hn<;>(try (cases hn;done))
        · cases hn
          rename_i ho;obtain ⟨q,m,c,rfl,hq⟩:=HM (jN S r.1 ho);exact ⟨λhz=>hq (by cases q<;>first| rfl| cases hz),λq=>by cases q⟩
        · cases hn
          rename_i ho;obtain ⟨q,m,c,rfl,hq⟩:=nR (lP S r.1 ho);exact ⟨λhz=>hq (by cases q<;>first| rfl| cases hz),λq=>by cases q⟩
    exact ⟨h _ hv.1,λq=>absurd q hv.2⟩
  · exact h.elim
theorem vH {op:BinOp} {t:TypeId} {ox oy:Operand} {u v:Value} (h:(∃ k m k' m',u= .int k m/\v= .int k' m')\/(∃ x y,u= .string x/\v= .string y)\/(∃ x y,u= .bool x/\v= .bool y)):(eqGuard op t ox oy u v).run P w= .ok () w:=by
 rcases h with ⟨k,m,k',m',rfl,rfl⟩| ⟨x,y,rfl,rfl⟩| ⟨x,y,rfl,rfl⟩<;>cases op<;>simp [eqGuard]
theorem PR.bind {m:Sem Unit} {f:Sem Value} (h:m.run P w= .ok () w) (k:PR P f w E g K):PR P (do m;f) w E g K:=by
 obtain ⟨v,sv,h1,h2,h3⟩:=k;exact ⟨v,sv,by rw [Sem.run_bind,h];exact h1,h2,h3⟩
theorem LV (S:dg n W F b E g w s a) {wr:Bool} {op:BinOp} {t:TypeId} {ox oy:Operand} {x y:SV} {u v:Value} (rx:df E g x u) (ry:df E g y v) (h:El wr P b s (isConst ox|| isConst oy) op t x y K):
  PR P (do eqGuard op t ox oy u v;binOp op t u v) w E g K:=by
 unfold El at h;split at h
 .obtain ⟨rfl,hx⟩:=gS rx;obtain ⟨rfl,hy⟩:=gS ry;refine PR.bind (vH (.inl ⟨_,_,_,_,rfl,rfl⟩)) ?_;split at h
  .rename_i k m k' q _;have e:(binOp .shl t (.int k m) (.int k' q))=pure (.int k (Aj k m q)):=by simp [binOp,Op.shift,Aj,Int.not_lt.2 h.1]
   rw [e];exact ⟨_,_,rfl,dB (eu _ _),h.2 (eu _ _)⟩
  .rename_i k m k' q _;have e:(binOp .shr t (.int k m) (.int k' q))=pure (.int k (kD k m q)):=by simp [binOp,Op.shift,kD,Int.not_lt.2 h.1]
   rw [e];exact ⟨_,_,rfl,dB (Nd hx),h.2 (Nd hx)⟩
  .split at h
   .rename_i hk;obtain rfl:=IntKind.eq_of_beq hk;exact LR hx h
   .cases h
 .obtain ⟨rfl,hx⟩:=rx;obtain ⟨rfl,hy⟩:=ry;exact PR.bind (vH (.inr (.inl ⟨_,_,rfl,rfl⟩))) (XQ h)
 .obtain ⟨rfl,hx⟩:=rx;obtain ⟨rfl,hy⟩:=ry;refine PR.bind (vH (.inr (.inr ⟨_,_,rfl,rfl⟩))) ?_;split at h
  .rename_i m q _ _ hu;exact ⟨_,_,run_eql_bool w t m q hu,gf _,h⟩
  .rename_i m q _ _ hu;exact ⟨_,_,run_neq_bool w t m q hu,gf _,h⟩
  .cases h
 .obtain ⟨us,hx,rfl⟩:=rx;obtain ⟨vs,hy,rfl⟩:=ry;split at h
  .rename_i fs hu;split at h
   .cases h
   .rename_i hg;simp only [Bool.not_eq_true,Bool.or_eq_false_iff] at hg;have hgd:(eqGuard op t ox oy (.agg us.toArray) (.agg vs.toArray)).run P w= .ok () w:=by
     cases op<;>simp [eqGuard,hg.1]
    refine PR.bind hgd ?_;have hfs:P.fieldsOf t=fs:=by unfold Program.fieldsOf;rw [hu]
    split at h
    .rename_i r hr hq;have he:=oh (w:=w) 9999 hq hx hy (ay _);have h2:=run_equalIn_struct (P:=P) w 9999 t us.toArray vs.toArray (by rw [hfs];exact hu) hg.2;rw [hfs] at h2;unfold isEq at hr;cases op<;>cases hr;exact ⟨_,_,by rw [run_eql_struct,h2,he];rfl,gf _,h⟩
    .rename_i r hr hq;have he:=oh (w:=w) 9999 hq hx hy (ay _);have h2:=run_equalIn_struct (P:=P) w 9999 t us.toArray vs.toArray (by rw [hfs];exact hu) hg.2;rw [hfs] at h2;unfold isEq at hr;cases op<;>cases hr;exact ⟨_,_,by rw [run_neq_struct,h2,he];rfl,gf _,h⟩
    .cases h
  .rename_i n e hu;split at h
   .cases h
   .rename_i hg;rw [Bool.not_eq_true] at hg;have hgd:(eqGuard op t ox oy (.agg us.toArray) (.agg vs.toArray)).run P w= .ok () w:=by
     cases op<;>simp [eqGuard,hg]
    refine PR.bind hgd ?_;split at h
    .rename_i r hr hq;have he:=FR (w:=w) (d:=9998) hu hq hx hy;unfold isEq at hr;cases op<;>cases hr;exact ⟨_,_,by rw [run_eql_struct,he];rfl,gf _,h⟩
    .rename_i r hr hq;have he:=FR (w:=w) (d:=9998) hu hq hx hy;unfold isEq at hr;cases op<;>cases hr;exact ⟨_,_,by rw [run_neq_struct,he];rfl,gf _,h⟩
    .cases h
  .cases h
 .split at h
  .rename_i e he;split at h
   .rename_i ht;rw [ao] at ht;obtain ⟨h1,h2⟩:=Sj S ht.2 rx h;obtain ⟨n1,n2⟩:=Gj ht.1 ry;exact ⟨_,_,(TE he (My ht.2 rx) n1 n2 λq _=>h2 q).1,gf _,h1⟩
   .split at h
    .rename_i ht;rw [ao] at ht;obtain ⟨h1,h2⟩:=Sj S ht.2 ry h;obtain ⟨n1,n2⟩:=Gj ht.1 rx;exact ⟨_,_,(TE he (My ht.2 ry) n1 n2 λq _=>h2 q).2,gf _,h1⟩
    .cases h
  .cases h
 .cases h
theorem RP {wr:Bool} {op:UnOp} {x:SV} {u:Value} (rx:df E g x u) (h:unV wr op x K):PR P (Op.unary op u) w E g K:=by
 unfold unV at h;split at h
 .obtain ⟨rfl,_⟩:=rx;exact ⟨_,_,rfl,gf _,h⟩
 .rename_i k m;obtain ⟨rfl,hx⟩:=gS rx;have e:(Op.unary .neg (.int k m))=(binOp .sub 0 (.int k 0) (.int k m)):=by simp [Op.unary,Op.intArith,binOp]
  rw [e];exact LR (by cases k<;>exact ⟨by decide,by decide⟩) h
 .rename_i k m;obtain ⟨rfl,hx⟩:=gS rx;have e:(Op.unary .xor (.int k m))=pure (Value.int k (dc .xor k (if k.signed then -1 else k.max) m)):=by simp [Op.unary,Op.intBits,dc]
  rw [e];exact ⟨_,_,rfl,dB (eu _ _),h (eu _ _)⟩
 .cases h
end
section
variable {P:Program} {n:Nat} {W:cQ} {F:List Atom} {b:Bs} {E:Env} {g w:World} {s:Ov} {a:Act} {K:SV->Prop}
theorem aat (v:Value) (i j:Nat):ny (ny v i) j=ny v (i+j):=by
 cases v with
 | pointer p=>
  cases p with
  | none=>rfl
  | some q=>simp [ny,Go.Deep.add_add]
 | _=>rfl
theorem Gt {g1:World} {k:Nat} {v:Value} {i:Int} {vs:List Value} {cs:List Cl} {t:TypeId} {off:Nat} {r:S1} (h:tn g1 k v i vs) (m:bx g1 w) (hc:bA E g cs vs) (hp:pT P t cs off=some r):
  ∃ u,(Instr.loadAt t (ny (jJ k v i) off)).run P w= .ok u w/\gm E g r u:=by
 unfold pT at hp;split at hp;cases hp
 .rename_i d hd;split at hp
  .rename_i hr;split at hp
   .rename_i ie ku;split at hp
    .rename_i hle;obtain rfl:=aj hp;have hl:off+ie.size<=vs.length:=by rw [hc.length];exact cH hle
     exact ⟨_,D5 h m hd hr (by rw [ku];rfl) hl,_,(hc.drop off).take ie.size,rfl⟩
    .cases hp
   .cases hp
  .rename_i hr;split at hp
   .rename_i c Jp;obtain rfl:=aj hp;obtain ⟨u,h1,h2⟩:=hc.get Jp;exact ⟨u,r7 h m hd (by simpa using hr) h1,h2⟩
   .cases hp
theorem CK {bb:Nat} {us:List Value} {cs:List Cl} {t t':TypeId} {off:Nat} {r:S1} (h:Ht w bb us.toArray t') (hc:bA E g cs us) (hp:pT P t cs off=some r):
  ∃ u,(Instr.loadAt t (ptr bb off)).run P w= .ok u w/\gm E g r u:=by
 unfold pT at hp;split at hp;cases hp
 .rename_i d hd;split at hp
  .rename_i hr;split at hp
   .rename_i ie ku;split at hp
    .rename_i hle;obtain rfl:=aj hp;have hl:off+ie.size<=us.length:=by rw [hc.length];exact cH hle
     have hlen:((us.drop off).take ie.size).length=ie.size:=by simp;omega
     exact ⟨_,wo (vs:=(us.drop off).take ie.size) h hd hr (by rw [ku,hlen];rfl) (by rw [hlen]),_,(hc.drop off).take ie.size,rfl⟩
    .cases hp
   .cases hp
  .rename_i hr;split at hp
   .rename_i c Jp;obtain rfl:=aj hp;obtain ⟨u,h1,h2⟩:=hc.get Jp;exact ⟨u,HU h hd (by simpa using hr) (by simpa using h1),h2⟩
   .cases hp
theorem UW {e:Ty} {t:TypeId} {v:Value} {xs:List e.den} {i:Int} {l:List Atom} (H:SL W g w (pj e t v xs::l)) (h0:0<=i) (h1:i< xs.length):∃ cs,tn w e.size v i cs/\e.rep.rel g cs (aK e xs i):=by
 letI:=e.rep;obtain ⟨cs,h2,h3⟩:=Yf (α:=e.den) H h0 h1;have hs:aO.size e.den=e.size:=Ty.gp e;rw [hs] at h2;refine ⟨cs,h2,?_⟩;have:aK e xs i=xs[i.toNat]'(by omega):=by
  unfold aK;rw [ba,ak (by omega)];rfl
 rw [this];exact h3
theorem lK {P:Program} {t:TypeId} {k:Kk} (h:jT P t k=true):P.underlying t=some (match k with| .int=>.int .i64| .str=>.string):=by
 unfold jT at h;split at h
 .assumption
 .assumption
 .cases h
theorem wS {P P':Program} {t:TypeId} {k:Kk} (h:jT P t k=true) (h':jT P' t k=true) (v:Value):keyOf P t v=keyOf P' t v:=by
 have hu:=lK h;have hu':=lK h';cases k<;>simp only [keyOf,hu,hu',mapKey]
theorem Ja {P P':Program} {t:TypeId} {k:Kk} (h:jT P t k=true) (h':jT P' t k=true) {bb:Nat} {m:List (k.den×Value)} {hh:Hp}:(@mapA k.den k.key P t bb m).sat g hh->(@mapA k.den k.key P' t bb m).sat g hh:=by
 letI:=k.key;rintro ⟨es,clock,h1,⟨⟨f1,f2,f3⟩,h3⟩⟩;have MX:∀ x,WideElems.rd P t eL x=WideElems.rd P' t eL x:=λx=>by unfold WideElems.rd;rw [wS h h']
 refine ⟨es,clock,h1,⟨⟨f1,f2,λx hx=>by rw [<-MX];exact f3 x hx⟩,?_⟩⟩;have wW:WideElems.rg P' t eL=WideElems.rg P t eL:=funext λx=>by unfold WideElems.rg;rw [MX]
 rw [wW];exact h3
theorem AF {t:TypeId} {n:Nat} {k:IntKind} (h:L4 P t=some (n,k)):∃ e,P.underlying t=some (.array n e)/\(P.info? t).map (·.size)=some n/\8< n/\n<=1000000:=by
 unfold L4 at h;split at h
 .rename_i m e i hu hi;split at h
  .split at h
   .rename_i hc;simp only [ao] at hc;obtain ⟨h1,h2,h3,h4⟩:=hc;simp only [j8,Prod.mk.injEq] at h;obtain ⟨rfl,rfl⟩:=h;exact ⟨e,hu,by rw [hi];exact congrArg some (ai h3),by simpa using h1,cH h2⟩
   .cases h
  .cases h
 .cases h
theorem Gy {k:IntKind}:∀ {cs:List (List Value)} {xs:List Int},@eC Int (Ty.int k).rep g cs xs->cs.flatten=xs.map (Value.int k ·)/\∀ n∈xs,aF k n
 | [],[],_=>⟨rfl,λ_ h=>by cases h⟩
 | c::cs,x::xs,⟨h1,h2⟩=>by
  obtain ⟨e1,e2⟩:=Gy h2;have h3:aF k x:=(eY ([]:Env) g (.int k) h1).2;have h4:c= [.int k x]:=h1.1;subst h4;refine ⟨by rw [bI,e1];rfl,λn hn=>?_⟩;rcases bm.1 hn with e| hn;rw [e];exact h3;exact e2 n hn
 | [],_::_,h=>h.elim
 | _::_,[],h=>h.elim
theorem S6 {b n cap:Nat}:ny (jJ 1 (.slice (some ⟨b,0,none⟩) n cap) 0) 0=ptr b 0:=by
 simp [jJ,ny,Addr.add]
theorem TI {k:IntKind} {u:TypeId} {v:Value} {xs:List (Ty.int k).den} {l:List Atom} (H:SL W g w (pj (.int k) u v xs::l)) (hz:0< xs.length):
  ∃ bb cap cur,v= .slice (some ⟨bb,0,none⟩) xs.length cap/\xs.length<=cap/\cap<=maxLen/\cur.size=cap/\cur.toList.take xs.length=xs.map (Value.int k ·)/\(∀ n∈xs,aF k n)/\SL W g w (Lm.oP bb cur u::l):=by
 letI:=(Ty.int k).rep;obtain ⟨cs,r,H1⟩:=H.pj;obtain ⟨e1,e2⟩:=Gy r;rcases H1.ofRow with ⟨_,hn,_,_⟩| ⟨bb,cap,cur,rfl,q1,q2,q3,q4,H2⟩;omega
 .have hs:aO.size (Ty.int k).den=1:=rfl;rw [hs,Nat.mul_one] at q3 q4;exact ⟨bb,cap,cur,rfl,q1,q2,q3,by rw [q4];exact e1,e2,H2⟩
def Hp.sub (h k:Hp):Prop:=∀ b o,h b=some o->k b=some o
theorem Hp.sub.trans {h k m:Hp} (a:h.sub k) (b:k.sub m):h.sub m:=λx o e=>b x o (a x o e)
theorem Hp.sub.left (h k:Hp):h.sub (h.join k):=λ_ _ e=>Hp.fJ e
theorem Hp.sub.right {h k:Hp} (a:h.apart k):k.sub (h.join k):=λb o e=>by
 rw [Hp.join_comm a];exact Hp.fJ e
theorem BP {g:World} {A:Atom}:∀ {L:List Atom} {h:Hp},A∈L->bq g L h->∃ h',h'.sub h/\A.sat g h'
 | B::L,h,hA,⟨h1,h2,ap,e,s1,s2⟩=>by
  subst e;rcases bm.1 hA with rfl| hA;exact ⟨h1,Hp.sub.left _ _,s1⟩
  .obtain ⟨h',i,s⟩:=BP hA s2;exact ⟨h',i.trans (Hp.sub.right ap),s⟩
theorem TR (S:dg n W F b E g w s a) {l mb:Nat} {v:Value} (h:E[l]?=some v) {kt tR:TypeId} {e:Ty} {M:List (Int×Nat×e.den)} {hz:Hp} (ho:b.obj s l= .ab (.pz kt tR e M hz mb)):v=ptr mb 0/\SL W g w (⟨λg h=>h=hz/\(pmA kt tR e M (ptr mb 0)).sat g h,λm ⟨h1,h2⟩=>⟨h1,Atom.mono _ m h2⟩⟩::dC (bj E 0 (b.heap s)++F) l):=by
 have H:=S.pick h;rw [ho] at H;obtain ⟨k,be,se,ow,h1,h2,ap,q,⟨v',s1,hv,SH,s3⟩,s4⟩:=H;rw [h] at s1;obtain rfl:=aj s1;subst hv;exact ⟨rfl,k,be,se,ow,h1,h2,ap,q,⟨SH,s3⟩,s4⟩
theorem ajN (S:dg n W F b E g w s a) {l mb:Nat} {v:Value} (h:E[l]?=some v) {kt tR:TypeId} {e:Ty} {M:List (Int×Nat×e.den)} {hz:Hp} (ho:b.obj s l= .ab (.pz kt tR e M hz mb)) {p:Int×Nat×e.den} (hp:p∈M):∃ us,e.rep.rel g us p.2.2/\Ht w p.2.1 us.toArray tR:=by
 obtain ⟨_,k,be,se,ow,h1,h2,ap,rfl,⟨_,s3⟩,s4⟩:=TR S h ho;obtain ⟨x,h3,h4,ap2,e2,_,s5⟩:=s3;obtain ⟨h5,i5,us,h6,h7⟩:=BP (A:=sY tR e p) (aH _ (aP.2 ⟨p,hp,rfl⟩)) s5;have e3:h4.sub h1:=λb o q=>by rw [e2];exact Hp.sub.right ap2 b o q
 exact ⟨us,h6,(ow p.2.1 _ (Hp.fJ (e3 _ _ (i5 _ _ h7)))).2.1⟩
theorem abu (S:dg n W F b E g w s a) {l q:Nat} {v:Value} (h:E[l]?=some v) {t:TypeId} {e:Ty} {xs:List e.den} {i:Int} {off:Nat} (ho:b.obj s l= .qk (.sf t e xs i off) q):∃ vn,E[q]?=some vn/\SL W g w (sfA t e xs i off v vn::dC (bj E 0 (b.heap s)++F) l):=by
 have H:=S.pick h;rw [ho] at H;obtain ⟨k,be,se,ow,h1,h2,ap,e1,⟨v',vn,s1,s2,s3⟩,s4⟩:=H;rw [h] at s1;obtain rfl:=aj s1;exact ⟨vn,s2,k,be,se,ow,h1,h2,ap,e1,s3,s4⟩
theorem SQ {z:Nat} {u:Value}:∀ {cs:List (List Value)} {i j:Nat} {r:List Value},(∀ x∈cs,x.length=z)->cs[i]?=some r->r[j]?=some u->cs.flatten[i*z+j]?=some u
 | [],_,_,_,_,h,_=>by simp at h
 | c::cs,0,j,r,_,h1,h2=>by
  obtain rfl:c=r:=by simpa using h1
  rw [bI,Nat.zero_mul,bW,aV (au.1 h2).1];exact h2
 | c::cs,i+1,j,r,hz,h1,h2=>by
  have hc:c.length=z:=hz c (by simp);have:=SQ (i:=i) (λx hx=>hz x (aH _ hx)) (by simpa using h1) h2;rw [bI,a8 (by rw [fg];omega),fg,hc,show i*z+1*z+j - z=i*z+j by omega];exact this
theorem akG {t:TypeId} {e:Ty} {v vn:Value} {xs:List e.den} {i:Int} {off:Nat} {l:List Atom} (H:SL W g w (sfA t e xs i off v vn::l)):∃ cs,tn w e.size v i cs/\cs[off]?=some vn/\∃ a n c,vn= .slice a n c:=by
 obtain ⟨k,be,se,ow,h1,h2,ap,e1,⟨cs,s1,⟨q1,q2,q3,q4,q5⟩,⟨q6,r,r1,r2⟩,_⟩,s4⟩:=H;have H1:SL W g w (uh t e.size v xs.length cs.flatten::l):=⟨k,be,se,ow,h1,h2,ap,e1,s1,s4⟩;have rO:=H1.row;rcases rO.2 with ⟨_,hn⟩| ⟨kb,cap,cur,rfl,_⟩;omega
 .refine ⟨r,λw2 m=>⟨(⟨kb,0,none⟩:Addr).add (i.toNat*e.size),rfl,λj u hj=>?_⟩,r2,q6⟩;rw [Go.Deep.add_add];exact m _ _ (rO.cells (g:=kb) rfl _ u (SQ q1 r1 hj))
theorem xO (S:dg n W F b E g w s a) {t:TypeId} {x:Cl} {u:Value} (rx:cr E g x u) (h:sJ P b s t x K):PR P (Instr.loadAt t u) w E g K:=by
 unfold sJ at h;split at h
 .obtain ⟨bb,hE,rfl⟩:=rx;split at h
  .rename_i ho;split at h
   .rename_i r hr;obtain ⟨us,h1,h2,_⟩:=oM S hE ho;obtain ⟨v,h3,h4⟩:=CK h2 h1 hr;exact ⟨v,.v r,h3,h4,h⟩
   .cases h
  .cases h
 .obtain ⟨⟨x,hE⟩,rfl,_⟩:=rx;split at h
  .rename_i ho;obtain ⟨p,hp,hb,h⟩:=h;subst hb;split at h
   .rename_i r' hr;obtain ⟨us,h1,h2⟩:=ajN S hE ho hp;obtain ⟨h4,h5⟩:=eY E g _ h1;obtain ⟨v,h3,h6⟩:=CK h2 h4 hr;exact ⟨v,.v r',h3,h6,h h5⟩
   .cases h
  .cases h
 .obtain ⟨h0,v,h1,rfl⟩:=rx;split at h
  .rename_i r hr;obtain ⟨cs,h2,h3⟩:=Ab h1 h0.1 h0.2.1;obtain ⟨h4,h5⟩:=eY E g _ h3;obtain ⟨q,h6,h7⟩:=Gt h2 S.m h4 hr;exact ⟨q,.v r,h6,h7,h h5⟩
  .cases h
 .obtain ⟨v,hE,rfl,_⟩:=rx;split at h
  .rename_i ho;split at h
   .rename_i n k ha;split at h
    .rename_i ys Jl;obtain ⟨q,hy⟩:=ev Jl;subst q;subst hy;obtain ⟨hc,h⟩:=cZ h;simp only [ao] at hc;obtain ⟨DU,hlen,h⟩:=h;obtain ⟨e,hu,kr,hn,_⟩:=AF ha;have hlen:_=n:=hlen;obtain ⟨bb,cap,cur,rfl,q1,q2,q3,q4,q5,H2⟩:=TI (jN S hE ho) (by rw [hlen];omega);rw [ai hc.1,ai hc.2,DU,S6];refine ⟨_,.arr k _,wo (H2.oP 0) hu rfl (vs:=List.map (Value.int k ·) _) (by rw [kr,bH,hlen]) (by rw [pD,bH];exact q4),⟨rfl,q5⟩,h⟩
    .cases h
   .split at h
    .rename_i kr;obtain ⟨h0,h1,h⟩:=h;split at h
     .rename_i r hr;obtain ⟨cs,h2,h3⟩:=UW (jN S hE ho) h0 h1;obtain ⟨h4,h5⟩:=eY E g _ h3;obtain ⟨q,h6,h7⟩:=Gt h2 (bx.refl w) h4 hr;rw [ai kr] at h6;exact ⟨q,.v r,h6,h7,h h5⟩
     .cases h
    .cases h
  .rename_i ho;split at h
   .rename_i hu;have hQ:=cZ h;clear h;obtain ⟨hc,rfl,h⟩:=hQ;rw [ao] at hc;obtain ⟨vn,hq,H⟩:=abu S hE ho;obtain ⟨cs,h2,h3,h4⟩:=akG H;rw [<-ai hc.1,ai hc.2];exact ⟨vn,.c (.o _),r7 h2 (bx.refl w) hu rfl h3,⟨hq,h4⟩,h⟩
   .cases h
  .cases h
 .cases h
end
end Go.Lm

