/- Texts of mine, laid together: LmKA LmSaid LmKB LmVa LmK3 LmVb LmVc LmVd LmVe LmEqS LmEqB LmVf LmVg LmVh LmVi. -/
import Derived.WalkKit
import Derived.WalkSpells
import Derived.WalkLawsBesides
import Derived.Deep.Quiet
import Derived.Deep.MidRow
import Derived.KernelRfl
import Derived.ProofKit
import Derived.OpenShut
import Derived.ShutString
import Derived.ChangeOld
import Derived.Deep.Slices
import Derived.Deep.Fields
import Derived.ChangeSame
import Derived.Laws.RangeAny
import Derived.Lib.OthersKept
import Derived.Maps.Own
import Derived.Maps.OwnSet
import Derived.Maps.Range
import Derived.Maps.RangeWalk
import Derived.Laws.OwnMore
import Derived.Laws.MakeOwn
import Derived.Laws.CopyRow
import Derived.Laws.BytesArg
import Derived.Laws.IdiomStrings
import Derived.Lib.ConvBytes
import Derived.WideKeyArr
import Derived.WideKeyMaps
import Derived.ChangeKeysEq
import Derived.Laws.StructEq
import Derived.Laws.Cover3
import Derived.Laws.Pointers
import Derived.Laws.Small
set_option linter.unusedVariables false
open Array renaming getElem?_eq_some_iff → aO, getElem?_eq_getElem → eE, getElem?_toList → l6
open Bool renaming and_eq_true → ao, not_eq_true' → cY, false_eq_true → dQ, false_and → eO, true_and → jm, or_eq_true → kq
open Int renaming toNat → ax, le_refl → bh, toNat_natCast → bL
open Go.IntKind renaming signed → ij, bits → kH, max → mU
open List renaming length_append → af, getElem?_eq_getElem → aq, replicate → au, length_cons → av, getElem?_eq_some_iff → aw, length_take → aF, mem_cons_of_mem → aI, take_of_length_le → aL, append_assoc → aM, mem_append → aV, length_nil → aY, mem_cons → bm, mem_map → bp, eq_nil_of_length_eq_zero → bB, getElem?_append_right → bD, getElem?_append_left → bF, take_append_drop → bK, drop_eq_getElem_cons → bM, range → bQ, length_map → bT, map_cons → cw, getElem?_map → dj, flatten_cons → dz, mem_iff_getElem → dZ, take_length → fz, nodup_cons → gj, mem_filter → gk, getElem?_eq_none → gU, map_append → jb, length_set → jc, flatten_append → jz, mem_of_getElem? → kz, filter_eq_self → lr, drop_take → lQ, getElem?_take → mT, take_take → o8, drop_zero → o9
open Nat renaming eq_of_beq_eq_true → ai, le_refl → aG, zero_add → gA, blt → gH, add_mul → gR, mul_le_mul_right → kx, min_eq_left → py
open Option.some renaming inj → aj
open UInt8 renaming ofNat → az
noncomputable section
namespace Go.Lm
open Go Go.RowKit

abbrev AL:=List (Nat×Value)
theorem jk {a b:Nat} (h:¬a=b):Nat.beq a b=false:=by
 grind [ai]
def S9 (o:Oper):Bool:=match o.op with| .select .. =>false| _=>true
def HM (P:Program) (f:FuncId) (args:Array Value) (w:World) (R:Value->World->Prop):Prop:=Calls P f args w λe w'=>∃ v,e= .returned v/\R v w'
section
variable {P:Program} {ops:Array Oper} {rest:List Oper} {o:Oper} {n:Nat} {s:AL} {Q:Exit->Act->World->Prop} {w:World}

end
end Go.Lm
namespace Go.Lm
open Go Go.RowKit

def Le (w w':World):Prop:=Below w.heap.size w w'
theorem Le.refl (w:World):Le w w:=Below.refl _ _
theorem Le.trans {a b c:World} (h:Le a b) (k:Le b c):Le a c:=Below.trans h (Below.mono k h.size)
theorem Le.drew (w:World):Le w w.drew:=(Below.refl _ _).drew
theorem Le.jH {w w':World} (h:Le w w') {k:Nat} {x:Obj} (hx:w.heap[k]?=some x):w'.heap[k]?=some x:=by
 rw [h.block k (aO.1 hx).1];exact hx
def reach (ops:Array Oper):Nat->Nat->Nat->Bool
 | 0,_,_=>false
 | f+1,j,i=>match ops[j]? with
  | none=>false
  | some o=>o.after.any λe=>Region.binds .any e&& (Nat.beq e.on i|| reach ops f e.on i)
def JQ (ops:Array Oper):Bool:=(bQ ops.size).all λi=>match ops[i]? with
 | none=>true
 | some o=>(o.after.all λe=> !Region.binds .any e|| gH e.on i)&& S9 o
def QE (ops:Array Oper) (n:Nat):Bool:=(bQ ops.size).all λi=>match (ops[i]?).bind (·.dst) with
 | none=>true
 | some d=>gH d n&& (bQ i).all λj=>match (ops[j]?).bind (·.dst) with
  | none=>true
  | some d'=> !Nat.beq d' d
section
variable {P:Program}
theorem filter_lt {p q:Nat->Bool}:∀ (l:List Nat),(∀ x∈l,q x=true->p x=true)->∀ i∈l,p i=true->q i=false->(l.filter q).length< (l.filter p).length
 | [],_,i,hi,_,_=>by cases hi
 | x::l,h,i,hi,hp,hq=>by
  have hle:(l.filter q).length<=(l.filter p).length:=by
   have this:∀ y∈l,q y=true->p y=true:=(by grind);clear h hi
   induction l with
   | nil=>simp
   | cons y l ih=>
    grind
  rcases bm.1 hi with rfl| r8
  .grind
  .have ih:=filter_lt l (by grind) i r8 hp hq
   grind
theorem qG {ops:Array Oper} {listed:Array Bool} (hc:∀ (j:Nat) (o:Oper),ops[j]?=some o->listed.getD j false=true->∀ e∈o.after,Region.binds .any e=true->listed.getD e.on false=true):
  ∀ f j i,reach ops f j i=true->listed.getD j false=true->listed.getD i false=true
 | 0,_,_,h,_=>by trivial
 | f+1,j,i,h,hj=>by
  unfold reach at h;cases ho:ops[j]? with
  | none=>grind
  | some o=>
   simp only [ho] at h;obtain ⟨k,hk,hb⟩:=Array.any_eq_true.1 h;simp only [ao,kq] at hb;have hl:=hc j o ho hj _ (Array.getElem_mem hk) hb.1;rcases hb.2 with he| he;rw [<-ai he];exact hl;exact qG hc f _ _ he hl
theorem tY (m j:Nat):(Array.replicate m false).getD j false=false:=by
 by_cases h:j< m
 .simp_all
 grind
end
end Go.Lm
namespace Go.Lm
open Go Go.RowKit

def HN (w:World) (b:Nat) (cs:Array Value) (t:TypeId):Prop:=w.heap[b]?=some (.cells cs t (0,0))
abbrev ptr (b o:Nat):Value:=.pointer (some ⟨b,o,none⟩)
structure xH (w:World) (b:Nat) (o:Obj) (w':World):Prop where
 eq:w'=w.alloc o
 at_:b=w.heap.size
structure Xk (w:World) (b:Nat) (cs:Array Value) (w':World):Prop where
 eq:w'=w.setRow b cs
 lt:b< w.heap.size
theorem xH.mk' (w:World) (o:Obj):xH w w.heap.size o (w.alloc o):=⟨rfl,rfl⟩
theorem xH.le {w w':World} {b:Nat} {o:Obj} (h:xH w b o w'):Le w w':=by
 rw [h.eq];exact (Below.refl _ _).alloc (aG _) o
theorem xH.here {w w':World} {b:Nat} {o:Obj} (h:xH w b o w'):w'.heap[b]?=some o:=by
 rw [h.eq,h.at_];exact heap_alloc_new w o
theorem xH.jH {w w':World} {b k:Nat} {o x:Obj} (h:xH w b o w') (hx:w.heap[k]?=some x):w'.heap[k]?=some x:=h.le.jH hx
theorem xH.below {w w' a:World} {b B:Nat} {o:Obj} (h:xH w b o w') (hb:Below B a w) (hB:B<=b):Below B a w':=by
 rw [h.eq];exact hb.alloc (by rw [<-h.at_];exact hB) o
theorem Vi (w:World) (b k:Nat) (cs:Array Value) (h:k≠b):(w.setRow b cs).heap[k]?=w.heap[k]?:=by
 simp_all [World.setRow,Array.getElem?_modify,Ne.symm]
theorem Xk.below {w w' a:World} {b B:Nat} {cs:Array Value} (h:Xk w b cs w') (hb:Below B a w) (hB:B<=b):Below B a w':=by
 rw [h.eq];exact hb.trans ⟨rfl,rfl,rfl,by simp,by grind [Vi]⟩
theorem Le.below {a w w':World} {B:Nat} (h:Le w w') (hb:Below B a w) (hB:B<=w.heap.size):Below B a w':=hb.trans (h.mono hB)
theorem HN.lt {w:World} {b:Nat} {cs:Array Value} {t:TypeId} (h:HN w b cs t):b< w.heap.size:=(aO.1 h).1
theorem HN.cell {w:World} {b:Nat} {cs:Array Value} {t:TypeId} (h:HN w b cs t) (i:Nat):w.cell? ⟨b,i,none⟩=cs[i]?:=by grind [HN,World.cell?]
section
variable {P:Program} {w:World} {ρ:Operand->Value} {o:Oper}

theorem Ik {b off:Nat} {cs:Array Value} {t t':TypeId} {d:TypeDesc} {v:Value} (hb:HN w b cs t') (hu:P.underlying t=some d) (hd:d.isRow=false) (hv:cs[off]?=some v):
  (Instr.loadAt t (ptr b off)).run P w= .ok v w:=by
 have ae9:(isAgg t).run P w= .ok false w:=by
  unfold isAgg;rw [Sem.run_bind,run_underlying hu w];cases d<;>simp_all
 have hc:=hb.cell off;simp_all [Instr.loadAt,Instr.sureAddr,loadVar]
theorem wK {b off:Nat} {cs:Array Value} {t t':TypeId} {d:TypeDesc} {vs:List Value} (hb:HN w b cs t') (hu:P.underlying t=some d) (hd:d.isRow=true)
  (hi:(P.info? t).map (·.size)=some vs.length) (hv:(cs.toList.drop off).take vs.length=vs):(Instr.loadAt t (ptr b off)).run P w= .ok (.agg vs.toArray) w:=by
 refine run_loadAt_mid w b off t vs d (λj v hj=>?_) hu hd hi;rw [hb.cell,<-l6]
 grind
theorem kB {b off:Nat} {cs:Array Value} {t t':TypeId} {v:Value} (hb:HN w b cs t') (hi:(P.info? t).map (·.size)=some v.cells.size) (h1:v.cells.toList.all (·.oneCell')=true)
  (hl:off+v.cells.size<=cs.size):
  (Instr.storeAt t (ptr b off) v).run P w= .ok () (w.setRow b (cs.toList.take off++v.cells.toList++cs.toList.drop (off+v.cells.size)).toArray):=by
 cases hq:P.info? t with
 | none=>grind
 | some i=>
  have uI:=run_storeCells_at P b off t' v.cells.toList 0 cs w hb (by omega) (by grind);simp_all [Instr.storeAt,Instr.sureAddr,storeVar,sizeOf,typeInfo]
theorem ahf {t:TypeId} {x:Operand} {v:Value} (ho:o.op= .box t x) (hx:ρ x=v):(execOp ρ o).run P w= .ok (.value (ptr w.heap.size 0)) (w.alloc (.cells v.cells t)):=by
 simp_all [execOp,Instr.box,newVar,newRow]
theorem Us {t:TypeId} {i:TypeInfo} {z:Value} (ho:o.op= .alloc t) (hi:P.info? t=some i) (hz:i.zero=some z):(execOp ρ o).run P w= .ok (.value (ptr w.heap.size 0)) (w.alloc (.cells z.cells t)):=by
 simp_all [execOp,Instr.alloc,zeroValue,typeInfo,newVar,newRow]
end

section
variable {P:Program} {ops:Array Oper} {rest:List Oper} {o:Oper} {n:Nat} {s:AL} {Q:Exit->Act->World->Prop} {w:World}

end

theorem Le.QZ {w w' a:World} (h:Le w w') (hb:Below a.heap.size a w):Below a.heap.size a w':=h.below hb hb.size
theorem afe {P:Program} {w:World} {d:Nat} {xs ys:Array Value} {f:Field} {fs:List Field} {k:IntKind} {m n:Int} {b:Bool} (hn:(f.name != "_")=true) (hu:P.underlying f.type=some (.int k)) (hi:((P.info? f.type).map (·.size))=some 1)
  (hx:xs[f.offset]?=some (.int k m)) (hy:ys[f.offset]?=some (.int k n)) (hr:(Op.eqFields (d+1) xs ys fs).run P w= .ok b w):(Op.eqFields (d+1) xs ys (f::fs)).run P w= .ok ((m==n)&& b) w:=by
 have hpx:(part f.type xs f.offset).run P w= .ok (.int k m) w:=by
  simp_all [part,isAgg,run_underlying]
 have Z5:(part f.type ys f.offset).run P w= .ok (.int k n) w:=by
  simp_all [part,isAgg,run_underlying]
 have ja:f.name≠ "_" :=by grind
 simp only [Op.eqFields,if_pos ja,Sem.run_bind,hpx,Z5,Result.andThen_ok,run_equalIn_int w d f.type k k m n hu];cases hb:m==n;rfl
 grind
theorem afd {P:Program} {w:World} {d:Nat} {xs ys:Array Value}:(Op.eqFields d xs ys []).run P w= .ok true w:=by rfl
end Go.Lm
namespace Go.Lm
open Go Go.RowKit Go.WideShapes Go.ChangeShapes

end Go.Lm
namespace Go.Lm
open Go Go.RowKit Go.ChangeShapes Go.WideShapes

def bt (w w':World):Prop:=∀ (a:Addr) (v:Value),w.cell? a=some v->w'.cell? a=some v
theorem bt.refl (w:World):bt w w:=λ_ _ h=>h
theorem bt.trans {a b c:World} (h:bt a b) (k:bt b c):bt a c:=λx v hx=>k x v (h x v hx)
theorem Le.agx {w w':World} (h:Le w w'):bt w w':=λa v hc=>by rw [Below.cell h (World.block_lt_of_cell? w a hc)];exact hc
structure rC (g w:World):Prop where
 size:g.heap.size<=w.heap.size
 mono:bt g w
theorem rC.refl (w:World):rC w w:=⟨aG _,bt.refl w⟩
theorem rC.le {g w w':World} (h:rC g w) (hl:Le w w'):rC g w':=⟨Nat.le_trans h.size hl.size,h.mono.trans hl.agx⟩
def tQ (g:World) (b:Nat):Prop:=∀ (a:Addr),a.block=b->g.cell? a=none
theorem xH.amK {g w w':World} {b:Nat} {o:Obj} (h:xH w b o w') (hs:rC g w):tQ g b:=λa ha=>by
 cases hc:g.cell? a with
 | none=>rfl
 | some v=>
  have:=World.block_lt_of_cell? g a hc;have h1:=hs.size;rw [ha,h.at_] at this;omega
def oQ (g w w':World):World:= {w' with heap:=Array.ofFn (n:=w'.heap.size) λk=>if k.val< w.heap.size then (g.heap[k.val]?).getD (.map #[] 0) else w'.heap[k.val]}
theorem uq {g w w':World} (_hs:rC g w) (hl:w.heap.size<=w'.heap.size) (a:Addr) (ha:a.block< w.heap.size):(oQ g w w').cell? a=g.cell? a:=by
 unfold World.cell? oQ;have fB:a.block< w'.heap.size:=by omega
 simp only [Array.getElem?_ofFn,fB,dif_pos,ha,if_true]
 grind
theorem G5 {g w w':World} (a:Addr) (ha:w.heap.size<=a.block):(oQ g w w').cell? a=w'.cell? a:=by
 unfold World.cell? oQ;by_cases fB:a.block< w'.heap.size
 .simp_all [if_neg]
 simp_all
theorem Qs (g w w':World):(oQ g w w').heap.size=w'.heap.size:=by simp [oQ]
theorem Qt {g w w':World} (hs:rC g w) (hl:Le w w'):rC (oQ g w w') w':=by
 refine ⟨by simp [Qs],λa v hv=>?_⟩;by_cases ha:a.block< w.heap.size
 .rw [uq hs hl.size a ha] at hv;exact hl.agx a v (hs.mono a v hv)
 grind [G5]
theorem Dm {g w w':World} (hs:rC g w) (hl:Le w w'):bt g (oQ g w w'):=λa v hv=>by
 have ha:a.block< w.heap.size:=Nat.lt_of_lt_of_le (World.block_lt_of_cell? g a hv) hs.size;rw [uq hs hl.size a ha];exact hv
theorem NK {g w w':World} {b:Nat} (hs:rC g w) (hl:Le w w') (hb:b< w.heap.size) (hn:tQ g b):tQ (oQ g w w') b:=λa ha=>by
 rw [uq hs hl.size a (by omega)];exact hn a ha
def Agr (g₀ w₀ g:World):Prop:=∀ (a:Addr),a.block< w₀.heap.size->g.cell? a=g₀.cell? a
theorem Agr.refl (g w:World):Agr g w g:=λ_ _=>rfl
theorem Agr.oQ {g₀ w₀ g w w':World} (h:Agr g₀ w₀ g) (hs:rC g w) (hl:Le w w') (h0:w₀.heap.size<=w.heap.size):Agr g₀ w₀ (oQ g w w'):=λa ha=>by
 rw [uq hs hl.size a (by omega)];exact h a ha
class aQ (α:Type) where
 size:Nat
 agg:Bool
 rel:World->List Value->α->Prop
 mono:∀ {w w':World} {cs:List Value} {x:α},bt w w'->rel w cs x->rel w' cs x
 len:∀ {w:World} {cs:List Value} {x:α},rel w cs x->cs.length=size
def Is {α:Type} [aQ α] (w:World) (v:Value) (x:α):Prop:=
 if (aQ.agg α) then ∃ cs,v= .agg cs/\aQ.rel w cs.toList x else aQ.rel w [v] x
theorem Is.mono {α:Type} [aQ α] {w w':World} {v:Value} {x:α} (hl:bt w w') (h:Is w v x):Is w' v x:=by
 unfold Is at*;split at h
 .rename_i ha
  grind [aQ.mono]
 .rename_i ha
  grind [aQ.mono]
instance:aQ Int where
 size:=1
 agg:=false
 rel _ cs n:=cs= [.int .i64 n]/\(Lit.int .i64 n).wf=true
 mono _ h:=h
 len h:=by rw [h.1];rfl
instance:aQ Bool where
 size:=1
 agg:=false
 rel _ cs b:=cs= [.bool b]
 mono _ h:=h
 len h:=by rw [h];rfl
instance:aQ UInt8 where
 size:=1
 agg:=false
 rel _ cs b:=cs= [.int .u8 b.toNat]
 mono _ h:=h
 len h:=by rw [h];rfl
instance:aQ ByteArray where
 size:=1
 agg:=false
 rel _ cs s:=cs= [.string s]/\s.size<=maxLen
 mono _ h:=h
 len h:=by rw [h.1];rfl
def aoe {α:Type} [aQ α] (w:World) (v:Value) (xs:List α):Prop:=
 (v= .slice none 0 0/\xs= [])\/
 ∃ (a:Addr) (cap:Nat),v= .slice (some a) xs.length cap/\xs.length<=cap/\cap<=maxLen/\
  ∀ (i:Nat) (x:α),xs[i]?=some x->∃ cs:List Value,(∀ (j:Nat) (c:Value),cs[j]?=some c->w.cell? (a.add (i*aQ.size α+j))=some c)/\aQ.rel w cs x
instance {α:Type} [aQ α]:aQ (List α) where
 size:=1
 agg:=false
 rel w cs xs:=∃ v,cs= [v]/\aoe w v xs
 mono:=by
  rintro w w' cs x hl ⟨v,rfl,h⟩;refine ⟨v,rfl,?_⟩;rcases h with h| ⟨a,cap,hv,h1,h2,h3⟩;exact .inl h
  .refine .inr ⟨a,cap,hv,h1,h2,λi x hx=>?_⟩;obtain ⟨cs,hc,hr⟩:=h3 i x hx;exact ⟨cs,λj c hj=>hl _ c (hc j c hj),aQ.mono hl hr⟩
 len:=by grind
theorem dE {α:Type} [aQ α] {w:World} {v:Value} {xs:List α}:Is w v xs↔aoe w v xs:=by
 simp [Is,aQ.agg,aQ.rel]
def D6 (P:Program) (t:TypeId) (α:Type) [aQ α]:Prop:=
 ∀ {H:Type} (enc:TypeId×Value->H) (w:World) (base:Nat) (spare:Nat->Bool) (held:Bool) (fuel:Nat) (cs:List Value) (y:DataW H×List MemPlace),DataW.trod enc P w base spare held fuel t cs=some y->∃ x:α,aQ.rel w cs x
section
variable {P:Program}
theorem PS {t:TypeId} (ht:P.underlying t=some .bool):D6 P t Bool:=λ_ _ _ _ _ _ _ _ h=>by
 obtain ⟨b,hc,_⟩:=DataW.trod_bool ht h;exact ⟨b,hc⟩
theorem PQ {t:TypeId} (ht:P.underlying t=some (.int .u8)):D6 P t UInt8:=λ_ _ _ _ _ _ cs _ h=>by
 obtain ⟨n,hc,_,hw⟩:=DataW.trod_int ht h;have hb:0<=n/\n<=255:=by
  grind [Lit.wf,IntKind.min,mU,ij,kH]
 refine ⟨az n.toNat,?_⟩;have:((az n.toNat).toNat:Int)=n:=by
  simp;omega
 show cs= [.int .u8 _]
 grind
theorem VI {t:TypeId} (ht:P.underlying t=some .string):D6 P t ByteArray:=λ_ _ _ _ _ _ _ _ h=>by
 obtain ⟨s,hc,_,hs⟩:=DataW.trod_string ht h;exact ⟨s,hc,hs⟩
theorem Af {α:Type} {p:Nat->α->Prop}:∀ n:Nat,(∀ i,i< n->∃ x,p i x)->∃ l:List α,l.length=n/\∀ i x,l[i]?=some x->p i x
 | 0,_=>by simp
 | n+1,h=>by
  obtain ⟨l,hl,hp⟩:=Af n λi hi=>h i (by omega);obtain ⟨x,hx⟩:=h n (by omega);refine ⟨l++ [x],by grind,λi y hy=>?_⟩
  grind
theorem PO {t e:TypeId} {α:Type} [aQ α] (ht:P.underlying t=some (.slice e)) (hs:P.cellsOf e=aQ.size α) (he:D6 P e α):D6 P t (List α):=λenc w base spare held fuel cs y h=>by
 rcases Go.Deep.open_slice ht h with ⟨hc,_⟩| ⟨a,len,cap,m,n,D,Pl,hc,hb,hl,hm,hmm,_,hi⟩;exact ⟨[],_,hc,.inl ⟨rfl,rfl⟩⟩
 .have hlm:len<=m:=by grind
  obtain ⟨l,Qo,hp⟩:=Af (α:=α) (p:=λi x=>∃ cs:List Value,(∀ (j:Nat) (c:Value),cs[j]?=some c->w.cell? (a.add (i*aQ.size α+j))=some c)/\aQ.rel w cs x) len λi r8=>by
   obtain ⟨zg,h1,h2⟩:=hi i (by omega);obtain ⟨x,hx⟩:=he enc w base spare held n zg _ h2;obtain ⟨_,Qq,uV⟩:=World.cells?_some h1
   grind [Go.Deep.add_add]
  subst Qo;exact ⟨l,_,hc,.inr ⟨a,cap,rfl,hl,hm,hp⟩⟩
theorem Zn {t:TypeId} {α:Type} [aQ α] (ho:D6 P t α) (ha:aQ.agg α=false) {H:Type} {enc:TypeId×Value->H} {w:World} {base:Nat} {spare:Nat->Bool} {held:Bool} {v:Value} {d:DataW H} {ps:List MemPlace}
  (hv:v.cells= #[v]) (h:DataW.Trod enc P w base spare held t v d ps):∃ x:α,Is w v x:=by
 obtain ⟨fuel,hf⟩:=h;obtain ⟨x,hx⟩:=ho enc w base spare held fuel _ _ hf;unfold Is
 grind
def km (k:Nat):Value->Int->Value
 | .slice (some a) _ _,i=>.pointer (some (a.add (i.toNat*k)))
 | _,_=>undef
theorem W4 {w:World} {ρ:Operand->Value} {o:Oper} {x:Operand} {t:TypeId} {s:ByteArray} (ho:o.op= .call {callee:=.builtin .len,args:= #[x],argTypes:= #[t]}) (ht:P.underlying t=some .string) (hx:ρ x= .string s):
  (execOp ρ o).run P w= .ok (.value (.int .i64 s.size)) w:=by
 simp_all [execOp,resolve,invoke,builtin,Builtin.len_,run_underlying,goInt]
theorem an6 {α:Type} [aQ α] {w:World} {ρ:Operand->Value} {o:Oper} {x:Operand} {t e:TypeId} {v:Value} {xs:List α} (h:Is w v xs) (ho:o.op= .call {callee:=.builtin .len,args:= #[x],argTypes:= #[t]}) (ht:P.underlying t=some (.slice e)) (hx:ρ x=v):
  (execOp ρ o).run P w= .ok (.value (.int .i64 xs.length)) w:=by
 rcases dE.1 h with ⟨rfl,rfl⟩| ⟨a,cap,rfl,_⟩<;>simp [execOp,ho,resolve,invoke,builtin,hx,Builtin.len_,run_underlying ht,goInt]
theorem OJ {α:Type} [aQ α] {w:World} {ρ:Operand->Value} {o:Oper} {x y:Operand} {t e:TypeId} {v:Value} {xs:List α} {i:Int} {ki:IntKind} (h:Is w v xs) (h0:0<=i) (h1:i< xs.length) (ho:o.op= .indexAddr t x y) (ht:P.underlying t=some (.slice e))
  (hs:(P.info? e).map (·.size)=some (aQ.size α)) (hx:ρ x=v) (hy:ρ y= .int ki i):(execOp ρ o).run P w= .ok (.value (km (aQ.size α) v i)) w:=by
 rcases dE.1 h with ⟨rfl,rfl⟩| ⟨a,cap,rfl,_⟩
 .grind
 .cases hq:P.info? e with
  | none=>grind
  | some ie=>
   have mM:ie.size=aQ.size α:=by grind
   simp [execOp,ho,Instr.indexAt,hx,hy,asIntOf,run_underlying ht,h0,h1,sizeOf,typeInfo,hq,mM,km]
end

section
variable {P:Program}
theorem Is.ZH {α:Type} [aQ α] {w:World} {v:Value} {xs:List α} (h:Is w v xs):xs.length<=9223372036854775807:=by
 rcases dE.1 h with ⟨_,rfl⟩| ⟨_,cap,_,h1,h2,_⟩;simp
 grind [maxLen]
def jj (s:ByteArray) (i:Int):UInt8:=(s[i.toNat]?).getD 0
theorem OG {w:World} {ρ:Operand->Value} {o:Oper} {x:Operand} {lo hi:Option Operand} {t:TypeId} {s:ByteArray} {l h:Int} (hl:0<=l) (GY:l<=h) (hh:h<=s.size) (ho:o.op= .slice t x lo hi none) (ht:P.underlying t=some .string) (hx:ρ x= .string s)
  (h1:(lo=none/\l=0)\/∃ y,lo=some y/\ρ y= .int .i64 l) (h2:(hi=none/\h=s.size)\/∃ y,hi=some y/\ρ y= .int .i64 h):
  (execOp ρ o).run P w= .ok (.value (.string (s.extract l.toNat h.toNat))) w:=by
 have e0:0<=h:=by omega
 have hb:(Instr.sliceBounds false s.size s.size (lo.map ρ) (hi.map ρ) none).run P w= .ok (l.toNat,h.toNat,s.size) w:=by
  rcases h1 with ⟨rfl,rfl⟩| ⟨y,rfl,hy⟩<;>rcases h2 with ⟨rfl,rfl⟩| ⟨z,rfl,hz⟩<;>
   simp_all [Instr.sliceBounds,Instr.sliceBound,asIntOf]<;>omega
 simp_all [execOp,Instr.sliceAt,run_underlying,Instr.slice]
end

def jB (k:Nat):Value->Int->Int->Value
 | .slice a _ cap,l,h=>.slice (if cap=l.toNat then a else a.map (·.add (l.toNat*k))) (h.toNat - l.toNat) (cap - l.toNat)
 | v,_,_=>v
section
variable {P:Program}
theorem af5 {α:Type} [aQ α] {w:World} {ρ:Operand->Value} {o:Oper} {x:Operand} {lo hi:Option Operand} {t e:TypeId} {v:Value} {xs:List α} {l h:Int} (OV:Is w v xs) (hl:0<=l) (GY:l<=h) (hh:h<=xs.length) (ho:o.op= .slice t x lo hi none)
  (ht:P.underlying t=some (.slice e)) (hs:(P.info? e).map (·.size)=some (aQ.size α)) (hx:ρ x=v)
  (h1:(lo=none/\l=0)\/∃ y,lo=some y/\ρ y= .int .i64 l) (h2:(hi=none/\h=xs.length)\/∃ y,hi=some y/\ρ y= .int .i64 h):
  (execOp ρ o).run P w= .ok (.value (jB (aQ.size α) v l h)) w:=by
 obtain ⟨a,cap,rfl,JL⟩:∃ a cap,v= .slice a xs.length cap/\xs.length<=cap:=by
  rcases dE.1 OV with ⟨rfl,rfl⟩| ⟨a,cap,rfl,hc,_⟩
  .grind
  grind
 have e0:0<=h:=by omega
 have NI:h<=(cap:Int):=by omega
 have hb:(Instr.sliceBounds true xs.length cap (lo.map ρ) (hi.map ρ) none).run P w= .ok (l.toNat,h.toNat,cap) w:=by
  rcases h1 with ⟨rfl,rfl⟩| ⟨y,rfl,hy⟩<;>rcases h2 with ⟨rfl,rfl⟩| ⟨z,rfl,hz⟩<;>
   simp_all [Instr.sliceBounds,Instr.sliceBound,asIntOf]<;>omega
 cases hq:P.info? e with
 | none=>grind
 | some ie=>
  simp_all [execOp,Instr.sliceAt,run_underlying,Instr.slice,sizeOf,typeInfo,jB]
theorem Is.slice {α:Type} [aQ α] {w:World} {v:Value} {xs:List α} {l h:Int} (hx:Is w v xs) (hl:0<=l) (GY:l<=h) (hh:h<=xs.length):
  Is w (jB (aQ.size α) v l h) ((xs.drop l.toNat).take (h.toNat - l.toNat)):=by
 have hlen:((xs.drop l.toNat).take (h.toNat - l.toNat)).length=h.toNat - l.toNat:=by grind
 rcases dE.1 hx with ⟨rfl,rfl⟩| ⟨a,cap,rfl,hc,hm,h3⟩
 .refine dE.2 (.inl ⟨?_,by simp⟩);simp at hh;have h1:h=0:=by omega
  have h2:l=0:=by omega
  subst h1 h2;rfl
 .refine dE.2 (.inr ⟨if cap=l.toNat then a else a.add (l.toNat*aQ.size α),cap - l.toNat,?_,by omega,by omega,λi x hi=>?_⟩)
  .grind [jB]
  .have r8:i< h.toNat - l.toNat:=by
    grind
   rw [mT,if_pos r8,List.getElem?_drop] at hi;obtain ⟨cs,h4,h5⟩:=h3 _ x hi;refine ⟨cs,λj c hj=>?_,h5⟩;rw [if_neg (by omega),Go.Deep.add_add]
   grind
end
theorem pg {k:IntKind} {n:Int} (h:(Lit.int k n).wf=true):k.wrap n=n:=by
 cases k<;>simp [Lit.wf,IntKind.min,mU,ij,kH] at h<;>simp [IntKind.wrap,ij,kH]<;>omega
theorem wrap64_in {n:Int} (h0: -9223372036854775808<=n) (h1:n<=9223372036854775807):IntKind.i64.wrap n=n:=pg (by grind [WalkArith.wf_i64])
end Go.Lm
namespace Go.Lm
open Go Go.RowKit

structure qy (w:World) (b:Nat) (o:Obj) (w':World):Prop where
 eq:w'= {w with heap:=w.heap.setIfInBounds b o}
 lt:b< w.heap.size
theorem qy.here {w w':World} {b:Nat} {o:Obj} (h:qy w b o w'):w'.heap[b]?=some o:=by rw [h.eq];simp [h.lt]
theorem qy.ZN {w w':World} {b k:Nat} {o:Obj} (h:qy w b o w') (ja:k≠b):w'.heap[k]?=w.heap[k]?:=by
 rw [h.eq];grind
theorem qy.jH {w w':World} {b k:Nat} {o x:Obj} (h:qy w b o w') (ja:k≠b) (hx:w.heap[k]?=some x):w'.heap[k]?=some x:=by rw [h.ZN ja];exact hx
theorem qy.size {w w':World} {b:Nat} {o:Obj} (h:qy w b o w'):w'.heap.size=w.heap.size:=by rw [h.eq];simp
theorem qy.below {w w' a:World} {b B:Nat} {o:Obj} (h:qy w b o w') (hb:Below B a w) (hB:B<=b):Below B a w':=by
 refine hb.trans ⟨?_,?_,?_,?_,λk hk=>h.ZN (by omega)⟩;rw [h.eq];rw [h.eq];rw [h.eq];rw [h.size];omega
theorem rC.BU {g w w':World} {b:Nat} {o:Obj} (h:rC g w) (hn:tQ g b) (hu:qy w b o w'):rC g w':=by
 refine ⟨by rw [hu.size];exact h.size,λa v hv=>?_⟩;have ja:a.block≠b:=λe=>by rw [hn a e] at hv;cases hv
 have h1:=h.mono a v hv;rw [World.cell?_of_block (w:=w) (hu.ZN ja)];exact h1
section
variable {P:Program}
theorem OH {w:World} {ρ:Operand->Value} {o:Oper} {x:Operand} {t:TypeId} {s:ByteArray} (ho:o.op= .range t x) (ht:P.underlying t=some .string) (hx:ρ x= .string s):
  (execOp ρ o).run P w= .ok (.value (ptr w.heap.size 0)) (w.alloc (.stringIter s 0)):=by
 simp_all [execOp,Instr.range,run_underlying]
theorem Q6 {w:World} {ρ:Operand->Value} {o:Oper} {x:Operand} {s:ByteArray} {b pos:Nat} (hk:w.heap[b]?=some (.stringIter s pos)) (h:pos< s.size) (ho:o.op= .next x true) (hx:ρ x=ptr b 0):
  (execOp ρ o).run P w= .ok (.value (.tuple #[.bool true,.int .i64 pos,.int .i32 (Utf8.decode s pos).1])) {w with heap:=w.heap.setIfInBounds b (.stringIter s (pos+(Utf8.decode s pos).2))}:=by
 have h1:=Lib.run_next_any_at (P:=P) w b s pos o.type hk h;simp only [execOp,ho,hx,Sem.run_bind,h1,Result.andThen_ok,Sem.run_pure];rfl
theorem W2 {w:World} {ρ:Operand->Value} {o:Oper} {x:Operand} {s:ByteArray} {b pos:Nat} (hk:w.heap[b]?=some (.stringIter s pos)) (h:¬pos< s.size) (ho:o.op= .next x true) (hx:ρ x=ptr b 0):
  (execOp ρ o).run P w= .ok (.value (.tuple #[.bool false])) w:=by
 grind [Lib.run_next_end_at,execOp,Sem.run_bind,Result.andThen_ok,Sem.run_pure]
end
section
variable {P:Program} {ops:Array Oper} {rest:List Oper} {o:Oper} {n:Nat} {s:AL} {Q:Exit->Act->World->Prop} {w:World}
end

def eF {α:Type} [aQ α] (g:World):List (List Value)->List α->Prop
 | [],[]=>True
 | c::cs,x::xs=>aQ.rel g c x/\eF g cs xs
 | _,_=>False
theorem eF.mono {α:Type} [aQ α] {g g':World} (h:bt g g'):∀ {cs:List (List Value)} {xs:List α},eF g cs xs->eF g' cs xs
 | [],[],_=>trivial
 | _::_,_::_,hh=>⟨aQ.mono h hh.1,eF.mono h hh.2⟩
theorem eF.get {α:Type} [aQ α] {g:World}:∀ {cs:List (List Value)} {xs:List α},eF g cs xs->∀ (i:Nat) (x:α),xs[i]?=some x->∃ c,aQ.rel g c x/\∀ (j:Nat) (v:Value),c[j]?=some v->cs.flatten[i*aQ.size α+j]?=some v
 | [],[],_,i,x,hx=>by grind
 | c::cs,y::xs,h,0,x,hx=>by
  obtain rfl:y=x:=by grind
  refine ⟨c,h.1,λj v hj=>?_⟩
  grind
 | c::cs,y::xs,h,i+1,x,hx=>by
  obtain ⟨c',h1,h2⟩:=eF.get h.2 i x (by simpa using hx);refine ⟨c',h1,λj v hj=>?_⟩;have hl:=aQ.len h.1;rw [dz,bD (by rw [hl,gR];omega),hl];have:=h2 j v hj;rw [<-this];congr 1;rw [gR];omega
structure acV {α:Type} [aQ α] (g w:World) (base:Nat) (e:TypeId) (v:Value) (xs:List α):Prop where
 ex:∃ cs:List (List Value),eF g cs xs/\w.ownsRow base e (aQ.size α) v xs.length cs.flatten
theorem acV.is {α:Type} [aQ α] {g w G:World} {base:Nat} {e:TypeId} {v:Value} {xs:List α} (h:acV g w base e v xs) (hg:bt g G) (hb:∀ a:Addr,base<=a.block->G.cell? a=w.cell? a):Is G v xs:=by
 obtain ⟨cs,h1,h2,h3⟩:=h.ex;rcases h3 with ⟨rfl,h0⟩| ⟨k,cap,cur,rfl,hbk,hk,hnc,ff,yZ,Nz⟩;exact dE.2 (.inl ⟨rfl,bB h0⟩)
 .refine dE.2 (.inr ⟨⟨k,0,none⟩,cap,rfl,hnc,ff,λi x hx=>?_⟩);obtain ⟨c,hr,hc⟩:=h1.get i x hx;refine ⟨c,λj v hj=>?_,aQ.mono hg hr⟩
  grind [Addr.add_mid,World.cell?]
section
variable {P:Program} {ops:Array Oper} {rest:List Oper} {o:Oper} {n:Nat} {s:AL} {Q:Exit->Act->World->Prop} {w:World}
end

theorem xD {w:World} {k:Nat} {x:Obj} (h:w.heap[k]?=some x):k< w.heap.size:=(aO.1 h).1
theorem ajB {α:Type} [aQ α] (g:World):Is g (.slice none 0 0) ([]:List α):=dE.2 (.inl ⟨rfl,rfl⟩)
theorem HM.of {P:Program} {f:FuncId} {args:Array Value} {w:World} {v:Value} {Q:World->Prop} (h:Calls P f args w λe w'=>e= .returned v/\Q w'):HM P f args w λu w'=>u=v/\Q w':=
 Calls.mono h λ_ _ ⟨h1,h2⟩=>⟨v,h1,rfl,h2⟩
theorem HM.mono {P:Program} {f:FuncId} {args:Array Value} {w:World} {R R':Value->World->Prop} (h:HM P f args w R) (hr:∀ v w',R v w'->R' v w'):HM P f args w R':=
 Calls.mono h (by grind)
end Go.Lm
namespace Go.Lm
open Go Go.RowKit
section
variable {P:Program} {ops:Array Oper} {rest:List Oper} {o:Oper} {n:Nat} {s:AL} {Q:Exit->Act->World->Prop} {w:World} {d f:Nat}
end
end Go.Lm
namespace Go.Lm
open Go Go.RowKit

section
variable {P:Program} {ops:Array Oper} {rest:List Oper} {o:Oper} {n:Nat} {s:AL} {Q:Exit->Act->World->Prop} {w:World}
end
end Go.Lm
namespace Go.Lm
open Go Go.RowKit

class j6 (ρ:Type) where
 rsize:Nat
 rrel:World->List Value->ρ->Prop
 rmono:∀ {w w':World} {cs:List Value} {x:ρ},bt w w'->rrel w cs x->rrel w' cs x
 rlen:∀ {w:World} {cs:List Value} {x:ρ},rrel w cs x->cs.length=rsize
instance:j6 PUnit where
 rsize:=0
 rrel _ cs _:=cs= []
 rmono _ h:=h
 rlen h:=by rw [h];rfl
instance {α ρ:Type} [aQ α] [j6 ρ]:j6 (α×ρ) where
 rsize:=aQ.size α+j6.rsize ρ
 rrel w cs x:=∃ c1 c2,cs=c1++c2/\aQ.rel w c1 x.1/\j6.rrel w c2 x.2
 rmono:=by rintro w w' cs x hl ⟨c1,c2,rfl,h1,h2⟩;exact ⟨c1,c2,rfl,aQ.mono hl h1,j6.rmono hl h2⟩
 rlen:=by grind [aQ.len,j6.rlen]
structure St (ρ:Type) where
 v:ρ
instance {ρ:Type} [j6 ρ]:aQ (St ρ) where
 size:=j6.rsize ρ
 agg:=true
 rel w cs x:=j6.rrel w cs x.v
 mono hl h:=j6.rmono hl h
 len h:=j6.rlen h
section
variable {P:Program}
end
section
variable {ρ:Type} [j6 ρ] {w:World} {cs:List Value}
end
end Go.Lm
namespace Go.Lm
open Go Go.RowKit
abbrev Q5:=St (ByteArray×List UInt8×PUnit)
abbrev aoi:=St (Int×Int×Int×PUnit)
abbrev NodeD:=St (List ByteArray×Int×Int×aoi×List UInt8×ByteArray×List Q5×Bool×PUnit)
namespace NodeD
end NodeD
instance:Inhabited Q5:=⟨⟨(⟨#[]⟩,[],⟨⟩)⟩⟩
instance:Inhabited NodeD:=⟨⟨([],0,0,⟨(0,0,0,⟨⟩)⟩,[],⟨#[]⟩,[],false,⟨⟩)⟩⟩
end Go.Lm
namespace Go.Lm
open Go Go.RowKit

abbrev Hp:=Nat->Option Obj
def Hp.join (h k:Hp):Hp:=λb=>match h b with| some o=>some o| none=>k b
def Hp.apart (h k:Hp):Prop:=∀ b,h b=none\/k b=none
theorem Hp.fK {h k:Hp} {b:Nat} {o:Obj} (e:h b=some o):h.join k b=some o:=by simp [Hp.join,e]
theorem Hp.mz {h k:Hp} {b:Nat} (e:h b=none):h.join k b=k b:=by simp [Hp.join,e]
theorem Hp.apart.symm {h k:Hp} (a:h.apart k):k.apart h:=λb=>(a b).symm
theorem Hp.join_comm {h k:Hp} (a:h.apart k):h.join k=k.join h:=by
 funext b;unfold Hp.join;rcases a b with e| e<;>rw [e]<;>cases h b<;>cases k b<;>simp_all
theorem Hp.join_assoc (h k m:Hp):(h.join k).join m=h.join (k.join m):=by
 grind [Hp.join]
theorem Hp.eM {h k m:Hp}:h.apart (k.join m)↔h.apart k/\h.apart m:=by
 constructor
 .intro a;refine ⟨λb=>?_,λb=>?_⟩
  .rcases a b with e| e
   .grind
   grind [Hp.join]
  .rcases a b with e| e
   .grind
   grind [Hp.join]
 .rintro ⟨a1,a2⟩ b;rcases a1 b with e| e
  .grind
  .rcases a2 b with e'| e'
   .grind
   grind [Hp.join]
structure Atom where
 sat:World->Hp->Prop
 mono:∀ {g g':World} {h:Hp},bt g g'->sat g h->sat g' h
def bd (g:World):List Atom->Hp->Prop
 | [],_=>True
 | a::l,h=>∃ h1 h2,Hp.apart h1 h2/\h=h1.join h2/\a.sat g h1/\bd g l h2
theorem bd.mono {g g':World} (m:bt g g'):∀ {l:List Atom} {h:Hp},bd g l h->bd g' l h
 | [],_,_=>trivial
 | _::_,_,⟨h1,h2,a,e,s1,s2⟩=>⟨h1,h2,a,e,Atom.mono _ m s1,s2.mono m⟩
theorem bd.swap {g:World} {a b:Atom} {l:List Atom} {h:Hp} (s:bd g (a::b::l) h):bd g (b::a::l) h:=by
 obtain ⟨h1,h2,ap,rfl,s1,k1,k2,ap2,rfl,s2,s3⟩:=s;obtain ⟨a1,a2⟩:=Hp.eM.1 ap;refine ⟨k1,h1.join k2,Hp.eM.2 ⟨a1.symm,ap2⟩,?_,s2,h1,k2,a2,rfl,s1,s3⟩
 grind [Hp.join_assoc,Hp.join_comm]
def wX:List Atom->Nat->Option Atom
 | [],_=>none
 | a::_,0=>some a
 | _::l,i+1=>wX l i
def dJ:List Atom->Nat->List Atom
 | [],_=>[]
 | _::l,0=>l
 | a::l,i+1=>a::dJ l i
def xV:List Atom->Nat->Atom->List Atom
 | [],_,_=>[]
 | _::l,0,b=>b::l
 | a::l,i+1,b=>a::xV l i b
theorem bd.pick {g:World}:∀ {l:List Atom} {i:Nat} {a:Atom} {h:Hp},wX l i=some a->bd g l h->bd g (a::dJ l i) h
 | [],_,_,_,e,_=>by cases e
 | b::l,0,a,h,e,s=>by
  obtain rfl:b=a:=aj e;exact s
 | b::l,i+1,a,h,e,s=>by
  obtain ⟨h1,h2,ap,rfl,s1,s2⟩:=s;have:=bd.pick (l:=l) (i:=i) e s2;exact bd.swap ⟨h1,h2,ap,rfl,s1,this⟩
theorem bd.ou {g:World}:∀ {l:List Atom} {i:Nat} {a b:Atom} {h:Hp},wX l i=some b->bd g (a::dJ l i) h->bd g (xV l i a) h
 | [],_,_,_,_,e,_=>by cases e
 | c::l,0,a,b,h,e,s=>s
 | c::l,i+1,a,b,h,e,s=>by
  obtain ⟨h1,h2,ap,rfl,s1,s2⟩:=s.swap;exact ⟨h1,h2,ap,rfl,s1,bd.ou (l:=l) (i:=i) e s2⟩
structure cV where
 w:World
 g:World
 ds:List Deferred:=[]
abbrev cV.n (W:cV):Nat:=W.w.heap.size
structure qz (W:cV) (g w:World):Prop where
 uE:rC g w
 agr:Agr W.g W.w g
theorem qz.size {W:cV} {g w:World} (s:qz W g w):g.heap.size<=w.heap.size:=s.uE.size
theorem qz.mono {W:cV} {g w:World} (s:qz W g w):bt g w:=s.uE.mono
theorem qz.le {W:cV} {g w w':World} (s:qz W g w) (e:Le w w'):qz W g w':=⟨s.uE.le e,s.agr⟩
theorem qz.BU {W:cV} {g w w':World} {b:Nat} {o:Obj} (s:qz W g w) (hn:tQ g b) (u:qy w b o w'):qz W g w':=⟨s.uE.BU hn u,s.agr⟩
def SL (W:cV) (g w:World) (l:List Atom):Prop:=
 ∃ h,Below W.n W.w w/\qz W g w/\(∀ b o,h b=some o->W.n<=b/\w.heap[b]?=some o/\tQ g b)/\bd g l h
section
variable {W:cV} {g w w':World} {l:List Atom}
theorem SL.start (s:rC g w):SL {w:=w,g:=g} g w []:=⟨λ_=>none,Below.refl _ _,⟨s,Agr.refl g w⟩,by grind,trivial⟩
theorem SL.agm (H:SL W g w l):qz W g w:=by obtain ⟨_,_,h,_⟩:=H;exact h
theorem SL.uE (H:SL W g w l):rC g w:=H.agm.uE
theorem SL.m (H:SL W g w l):bt g w:=H.uE.mono
theorem SL.below (H:SL W g w l):Below W.n W.w w:=by obtain ⟨_,h,_⟩:=H;exact h
theorem SL.ao5 (H:SL W g w l):Le W.w w:=H.below
theorem SL.size (H:SL W g w l):W.n<=w.heap.size:=H.below.size
theorem SL.le (H:SL W g w l) (e:Le w w'):SL W g w' l:=by
 obtain ⟨h,b,s,o,t⟩:=H;refine ⟨h,e.QZ b,s.le e,λk x hx=>?_,t⟩;obtain ⟨o1,o2,o3⟩:=o k x hx;exact ⟨o1,e.jH o2,o3⟩
theorem SL.cv {l':List Atom} (H:SL W g w l) (k:∀ h,bd g l h->bd g l' h):SL W g w l':=by
 obtain ⟨h,b,s,o,t⟩:=H;exact ⟨h,b,s,o,k h t⟩
theorem SL.pick (i:Nat) {a:Atom} (H:SL W g w l) (e:wX l i=some a:=by exact rfl):SL W g w (a::dJ l i):=H.cv λ_=>bd.pick e
theorem SL.ou (i:Nat) {a b:Atom} (e:wX l i=some b) (H:SL W g w (a::dJ l i)):SL W g w (xV l i a):=H.cv λ_=>bd.ou e
theorem SL.drop {a:Atom} (H:SL W g w (a::l)):SL W g w l:=by
 obtain ⟨h,b,s,o,h1,h2,ap,rfl,s1,s2⟩:=H;refine ⟨h2,b,s,λk x hx=>o k x ?_,s2⟩;rcases ap k with e| e
 .grind [Hp.mz]
 grind
def perm (l:List Atom):List Nat->List Atom
 | []=>l
 | i::r=>match wX l i with
  | some a=>a::perm (dJ l i) r
  | none=>l
theorem SL.under {a:Atom} {l':List Atom} (H:SL W g w (a::l)) (k:∀ h,bd g l h->bd g l' h):SL W g w (a::l'):=
 H.cv λ_ ⟨h1,h2,ap,e,s1,s2⟩=>⟨h1,h2,ap,e,s1,k h2 s2⟩
theorem bd.perm:∀ (r:List Nat) {l:List Atom} {h:Hp},bd g l h->bd g (Lm.perm l r) h
 | [],_,_,s=>s
 | i::r,l,h,s=>by
  unfold Lm.perm;cases e:wX l i with
  | none=>exact s
  | some a=>
   obtain ⟨h1,h2,ap,q,s1,s2⟩:=s.pick e;exact ⟨h1,h2,ap,q,s1,bd.perm r s2⟩
theorem SL.perm (r:List Nat) (H:SL W g w l):SL W g w (Lm.perm l r):=H.cv λ_=>bd.perm r
theorem SL.to {l':List Atom} (r:List Nat) (H:SL W g w l) (e:Lm.perm l r=l':=by exact rfl):SL W g w l':=e▸H.perm r
theorem SL.cast {l':List Atom} (H:SL W g w l) (e:l=l':=by exact rfl):SL W g w l':=e▸H
def obj (b:Nat) (o:Obj):Atom:=⟨λ_ h=>h b=some o,λ_ s=>s⟩
abbrev pc (b:Nat) (cs:Array Value) (t:TypeId):Atom:=obj b (.cells cs t (0,0))
theorem SL.Ey {b:Nat} {o:Obj} (H:SL W g w (obj b o::l)):W.n<=b/\w.heap[b]?=some o/\tQ g b:=by
 obtain ⟨h,_,_,ow,h1,h2,ap,rfl,s1,s2⟩:=H;exact ow b o (Hp.fK s1)
theorem SL.has (i:Nat) {b:Nat} {o:Obj} (H:SL W g w l) (e:wX l i=some (obj b o):=by exact rfl):w.heap[b]?=some o:=(H.pick i e).Ey.2.1
theorem SL.pc (i:Nat) {b:Nat} {cs:Array Value} {t:TypeId} (H:SL W g w l) (e:wX l i=some (Lm.pc b cs t):=by exact rfl):HN w b cs t:=H.has i e
theorem SL.new {b:Nat} {o:Obj} (H:SL W g w l) (n:xH w b o w'):SL W g w' (obj b o::l):=by
 obtain ⟨h,be,s,ow,t⟩:=H;have hb:h b=none:=by
  cases hx:h b with
  | none=>rfl
  | some x=>
   have:=(aO.1 (ow b x hx).2.1).1;rw [n.at_] at this;omega
 refine ⟨Hp.join (λk=>if k=b then some o else none) h,n.below be (by rw [n.at_];exact be.size),s.le n.le,λk x hx=>?_,_,h,λk=>?_,rfl,if_pos rfl,t⟩
 .unfold Hp.join at hx;by_cases e:k=b
  .subst e;simp at hx;subst hx;exact ⟨by rw [n.at_];exact be.size,n.here,n.amK s.uE⟩
  .simp [e] at hx;obtain ⟨o1,o2,o3⟩:=ow k x hx;exact ⟨o1,n.jH o2,o3⟩
 grind
theorem SL.zQ {b:Nat} {o o':Obj} (H:SL W g w (obj b o::l)) (u:qy w b o' w'):SL W g w' (obj b o'::l):=by
 obtain ⟨hW,hw,hn⟩:=H.Ey;obtain ⟨h,be,s,ow,h1,h2,ap,rfl,s1,s2⟩:=H;have h2b:h2 b=none:=by
  rcases ap b with e| e;rw [show h1 b=some o from s1] at e;cases e;omega
 refine ⟨Hp.join (λk=>if k=b then some o' else h1 k) h2,u.below be hW,s.BU hn u,λk x hx=>?_,_,h2,λk=>?_,rfl,by show (if b=b then some o' else h1 b)=some o';grind,s2⟩
 .by_cases e:k=b
  .subst e;have:x=o':=by grind [Hp.join]
   subst this;exact ⟨hW,u.here,hn⟩
  .have OV:(h1.join h2) k=some x:=by grind [Hp.join]
   obtain ⟨o1,o2,o3⟩:=ow k x OV;exact ⟨o1,u.jH e o2,o3⟩
 .by_cases e:k=b
  .grind
  .rcases ap k with q| q
   .grind
   grind
theorem SL.BU (i:Nat) {b:Nat} {o o':Obj} (H:SL W g w l) (u:qy w b o' w') (e:wX l i=some (obj b o):=by exact rfl):SL W g w' (xV l i (obj b o')):=by
 have:=(H.pick i e).zQ u;exact this.ou i e
theorem Xk.BU {b:Nat} {cs xL:Array Value} {t:TypeId} (u:Xk w b cs w') (h:HN w b xL t):qy w b (.cells cs t (0,0)) w':=by
 refine ⟨?_,u.lt⟩;rw [u.eq];unfold World.setRow;congr 1
 grind [HN]
theorem SL.upd (i:Nat) {b:Nat} {cs xL:Array Value} {t:TypeId} (H:SL W g w l) (u:Xk w b cs w') (e:wX l i=some (Lm.pc b xL t):=by exact rfl):SL W g w' (xV l i (Lm.pc b cs t)):=
 H.BU i (u.BU (H.pc i e)) e
def exA {α:Sort _} (f:α->List Atom):Atom:=⟨λg h=>∃ x,bd g (f x) h,λm ⟨x,s⟩=>⟨x,s.mono m⟩⟩
def tf (p:Prop):Atom:=⟨λ_ _=>p,λ_ s=>s⟩
theorem bd.app:∀ {a:List Atom} {h1 h2:Hp},Hp.apart h1 h2->bd g a h1->bd g l h2->bd g (a++l) (h1.join h2)
 | [],h1,h2,ap,_,s2=>by
  -- what is left over ZO the rest
  have key:∀ {l:List Atom} {h2:Hp},Hp.apart h1 h2->bd g l h2->bd g l (h1.join h2):=by
   intro l
   induction l with
   | nil=>intros;trivial
   | cons a l ih=>
    rintro h2 ap ⟨k1,k2,ap2,rfl,s1,s3⟩;obtain ⟨a1,a2⟩:=Hp.eM.1 ap;refine ⟨k1,h1.join k2,Hp.eM.2 ⟨a1.symm,ap2⟩,?_,s1,ih a2 s3⟩
    grind [Hp.join_assoc,Hp.join_comm]
  grind
 | a::r,h1,h2,ap,⟨k1,k2,ap2,e,s1,s3⟩,s2=>by
  subst e;have ap':=Hp.eM.1 ap.symm;refine ⟨k1,k2.join h2,Hp.eM.2 ⟨ap2,ap'.1.symm⟩,by rw [Hp.join_assoc],s1,bd.app ap'.2.symm s3 s2⟩
theorem bd.YA:∀ {a:List Atom} {h:Hp},bd g (a++l) h->∃ h1 h2,Hp.apart h1 h2/\h=h1.join h2/\bd g a h1/\bd g l h2
 | [],h,s=>⟨λ_=>none,h,λ_=>.inl rfl,rfl,trivial,s⟩
 | a::r,h,⟨k1,k2,ap,e,s1,s2⟩=>by
  obtain ⟨m1,m2,ap2,rfl,s3,s4⟩:=bd.YA s2;obtain ⟨a1,a2⟩:=Hp.eM.1 ap;exact ⟨k1.join m1,m2,(Hp.eM.2 ⟨a2.symm,ap2.symm⟩).symm,by rw [e,Hp.join_assoc],⟨k1,m1,a1,rfl,s1,s3⟩,s4⟩
theorem SL.CV {α:Sort _} {f:α->List Atom} (H:SL W g w (exA f::l)):∃ x,SL W g w (f x++l):=by
 obtain ⟨h,b,s,o,h1,h2,ap,rfl,⟨x,s1⟩,s2⟩:=H;exact ⟨x,_,b,s,o,s1.app ap s2⟩
theorem SL.zU {α:Sort _} {f:α->List Atom} (x:α) (H:SL W g w (f x++l)):SL W g w (exA f::l):=H.cv λ_ s=>by
 obtain ⟨h1,h2,ap,rfl,s1,s2⟩:=s.YA;exact ⟨h1,h2,ap,rfl,⟨x,s1⟩,s2⟩
theorem SL.pure {p:Prop} (H:SL W g w (tf p::l)):p/\SL W g w l:=by
 refine ⟨?_,H.drop⟩;obtain ⟨h,b,s,o,h1,h2,ap,rfl,s1,s2⟩:=H;exact s1
theorem SL.pr {p:Prop} (hp:p) (H:SL W g w l):SL W g w (tf p::l):=H.cv λh s=>⟨λ_=>none,h,λ_=>.inl rfl,rfl,hp,s⟩
theorem SL.aeo (H:SL W g w l) (e:Le w w'):SL W (oQ g w w') w' l:=by
 obtain ⟨h,be,s,o,t⟩:=H;refine ⟨h,e.QZ be,⟨Qt s.uE e,s.agr.oQ s.uE e be.size⟩,λb x hx=>?_,t.mono (Dm s.uE e)⟩;obtain ⟨o1,o2,o3⟩:=o b x hx;exact ⟨o1,e.jH o2,NK s.uE e (aO.1 o2).1 o3⟩
def rF (g:World) (n b:Nat) (o:Obj):World:= {g with heap:=Array.ofFn (n:=n) λk=>if k.val=b then o else (g.heap[k.val]?).getD (.map #[] 0)}
theorem jK {g:World} {n b:Nat} {o:Obj} (hs:g.heap.size<=n) (a:Addr) (hb:a.block≠b):(rF g n b o).cell? a=g.cell? a:=by
 unfold World.cell? rF;by_cases h:a.block< n
 .simp only [Array.getElem?_ofFn,h,dif_pos]
  grind
 .simp only [Array.getElem?_ofFn,h,dif_neg,not_false_iff]
  grind
theorem SL.agN {b:Nat} {cs:Array Value} {t:TypeId} (H:SL W g w (Lm.pc b cs t::l)):∃ g',bt g g'/\SL W g' w l/\(∀ i,g'.cell? ⟨b,i,none⟩=cs[i]?):=by
 obtain ⟨hW,hw,hn⟩:=H.Ey;obtain ⟨h,be,s,o,h1,h2,ap,rfl,s1,s2⟩:=H;have fB:b< w.heap.size:=(aO.1 hw).1;have m:bt g (rF g w.heap.size b (.cells cs t (0,0))):=λa v hv=>by
  have ja:a.block≠b:=λe=>by rw [hn a e] at hv;cases hv
  rw [jK s.size a ja];exact hv
 have hc:∀ (i:Nat) (sp),(rF g w.heap.size b (.cells cs t (0,0))).cell? ⟨b,i,sp⟩=w.cell? ⟨b,i,sp⟩:=by simp_all [World.cell?,rF]
 refine ⟨rF g w.heap.size b (.cells cs t (0,0)),m,⟨h2,be,⟨⟨by simp [rF],λa v hv=>?_⟩,λa ha=>?_⟩,λk x hx=>?_,s2.mono m⟩,λi=>?_⟩
 .by_cases e:a.block=b
  .have:a=⟨b,a.off,a.spot⟩:=by cases a;simp_all
   grind
  .rw [jK s.size a e] at hv;exact s.mono a v hv
 .have ja:a.block≠b:=by grind
  rw [jK s.size a ja];exact s.agr a ha
 .have h1k:h1 k=none:=by
   rcases ap k with e| e;exact e
   grind
  obtain ⟨o1,o2,o3⟩:=o k x (by rw [Hp.mz h1k];exact hx);refine ⟨o1,o2,λa ha=>?_⟩;have hkb:k≠b:=λe=>by
   subst e;rw [show h1 k=some _ from s1] at h1k;grind
  rw [jK s.size a (by omega)];exact o3 a ha
 .rw [hc];exact HN.cell hw i
end
end Go.Lm
namespace Go.Lm
open Go Go.RowKit Go.Maps Go.ChangeMaps
open Go.WideElems (Fit rd rg pl rd_key rd_val rg_of)
open Go.WideShapes (sorted_perm)
open Go.MapKept

def eK (v:Value):Option (DataW Value×List MemPlace):=some (.held v,[])
class dK (κ:Type) where
 dec:DecidableEq κ
 lit:κ->Lit
 val:κ->Value
 ok:κ->Prop
 same:∀ a b:κ,(lit a).sameKey (lit b)= @decide (a=b) (dec a b)
 inj:∀ a b:κ,lit a=lit b->a=b
instance (priority:=low) {κ:Type} [dK κ]:DecidableEq κ:=dK.dec
instance:dK Int where
 dec:=inferInstance
 lit i:=.int .i64 i
 val i:=.int .i64 i
 ok i:=(Lit.int .i64 i).wf=true
 same a b:=by simp [Lit.sameKey]
 inj a b h:=by cases h;rfl
instance:dK ByteArray where
 dec:=inferInstance
 lit s:=.string s.data.toList
 val s:=.string s
 ok s:=s.size<=maxLen
 same a b:=by
  simp only [Lit.sameKey];rw [Bool.eq_iff_iff];constructor;cases a;simp_all
  grind
 inj a b h:=by
  cases a;simp_all
structure xJ (P:Program) (k:TypeId) (κ:Type) [dK κ]:Prop where
 keyed:Keyed P k
 of:∀ x:κ,dK.ok x->keyOf P k (dK.val x)=some (dK.lit x)
 inv:∀ (v:Value) (x:κ),keyOf P k v=some (dK.lit x)->v=dK.val x/\dK.ok x
theorem xe {P:Program} {k:TypeId} (h:P.underlying k=some (.int .i64)):xJ P k Int where
 keyed:=int_keyed h
 of x hx:=keyOf_int_mk h hx
 inv v x hv:=by
  obtain ⟨y,rfl,h2,h3⟩:=Maps.keyOf_int_inv h hv;cases h2;trivial
theorem Et {P:Program} {k:TypeId} (hk:P.underlying k=some .string) {key:Value} {kl:Lit} (h:keyOf P k key=some kl):∃ x:ByteArray,key= .string x/\kl= .string x.data.toList/\x.size<=maxLen:=by
 cases key<;>simp [keyOf,hk,mapKey] at h
 grind
theorem ZM {P:Program} {k:TypeId} (h:P.underlying k=some .string):xJ P k ByteArray where
 keyed:=string_keyed h
 of x hx:=by
  have OV:x.size<=maxLen:=hx;simp_all [keyOf,mapKey,dK.val,dK.lit]
 inv v x hv:=by
  obtain ⟨y,rfl,h2,h3⟩:=Et h hv;obtain rfl:=dK.inj (κ:=ByteArray) x y h2;trivial
section
variable {κ:Type} [dK κ]
def lq (p:κ×Value):Lit×DataW Value:=(dK.lit p.1,.held p.2)
def iS {α:Type} (l:List (κ×α)) (x:κ):Option α:=(l.find? λp=>decide (p.1=x)).map (·.2)
def pf {α:Type} (l:List (κ×α)) (x:κ):List (κ×α):=l.filter λp=> !decide (p.1=x)
def qY {α:Type} (l:List (κ×α)) (x:κ) (v:α):List (κ×α):=(x,v)::pf l x
theorem QD (l:List (κ×Value)) (x:κ):(l.map lq).filter (notKey (dK.lit x))=(pf l x).map lq:=by
 grind [pf,List.filter_congr,notKey,lq,dK.same]
structure lP (P:Program) (k:TypeId) (es:Array MapEntry) (clock:Nat) (l:List (κ×Value)):Prop where
 fit:Fit P k eK es clock
 perm:(es.toList.map (rg P k eK)).Perm (l.map lq)
theorem lP.size {P:Program} {k:TypeId} {es:Array MapEntry} {clock:Nat} {l:List (κ×Value)} (h:lP P k es clock l):es.size=l.length:=by
 have:=h.perm.length_eq
 grind
theorem lP.nodup {P:Program} {k:TypeId} {es:Array MapEntry} {clock:Nat} {l:List (κ×Value)} (h:lP P k es clock l) (K:Keyed P k):(l.map (·.1)).Nodup:=by
 have h1:=fit_apart K h.fit;have h2:(l.map lq).Pairwise (λp q=>p.1≠q.1):=(h.perm.pairwise_iff (by grind)).1 h1
 grind [lq]
theorem mV {P:Program} {k:TypeId} {es:Array MapEntry} {clock:Nat} (F:Fit P k eK es clock) {x:MapEntry} (hx:x∈es.toList):∃ kl,keyOf P k x.key=some kl/\rg P k eK x=(kl,.held x.val):=by
 obtain ⟨y,hy⟩:=F.reads x hx;refine ⟨y.1,rd_key hy,?_⟩;rw [rg_of hy];obtain ⟨z,hz,hd⟩:=rd_val hy
 grind [eK]
theorem oR {α:Type} {l:List (κ×α)} {x:κ} {v:α} (h:iS l x=some v):(x,v)∈l:=by
 unfold iS at h;cases hf:l.find? (λp=>decide (p.1=x)) with
 | none=>grind
 | some p=>
  grind
theorem lj {α:Type} {l:List (κ×α)} (hn:(l.map (·.1)).Nodup) {x:κ} {v:α} (h:(x,v)∈l):iS l x=some v:=by
 induction l with
 | nil=>cases h
 | cons p l ih=>
  grind [iS]
theorem oa {α:Type} {l:List (κ×α)} {x:κ}:iS l x=none↔∀ p∈l,p.1≠x:=by
 simp [iS]
def mapA (P:Program) (k:TypeId) (b:Nat) (l:List (κ×Value)):Atom:=
 ⟨λ_ h=>∃ es clock,h b=some (.map es clock)/\lP P k es clock l,λ_ s=>s⟩
variable {P:Program} {k:TypeId} {W:cV} {g w w':World} {l:List Atom} {b:Nat} {m:List (κ×Value)}
theorem SL.VS (H:SL W g w (mapA P k b m::l)):∃ es clock,lP P k es clock m/\SL W g w (obj b (.map es clock)::l):=by
 obtain ⟨h,be,s,ow,h1,h2,ap,rfl,⟨es,clock,e,r⟩,s2⟩:=H;exact ⟨es,clock,r,_,be,s,ow,h1,h2,ap,rfl,e,s2⟩
theorem SL.ajv {es:Array MapEntry} {clock:Nat} (r:lP P k es clock m) (H:SL W g w (obj b (.map es clock)::l)):SL W g w (mapA P k b m::l):=by
 obtain ⟨h,be,s,ow,h1,h2,ap,rfl,e,s2⟩:=H;exact ⟨_,be,s,ow,h1,h2,ap,rfl,⟨es,clock,e,r⟩,s2⟩
theorem SL.P6 (H:SL W g w l) (n:xH w b (.map #[] 0) w'):SL W g w' (mapA P k b ([]:List (κ×Value))::l):=by
 refine (H.new n).ajv ⟨?_,by simp⟩;obtain ⟨es,clock,h1,h2,h3,h4⟩:=World.ownsMap_made w P k eK
 grind [heap_alloc_new]
theorem SL.GK (H:SL W g w (mapA P k b m::l)):m.length<=maxLen:=by
 obtain ⟨es,clock,r,_⟩:=H.VS;rw [<-r.size];exact r.fit.size
theorem SL.aeK (c:Bool) (H:SL W g w (mapA P k b m::l)) (K:xJ P k κ) {t e:TypeId} (ht:P.underlying t=some (.map k e)) {z:Value} (hz:(zeroValue e).run P w= .ok z w) (x:κ) (hx:dK.ok x):
  (Instr.lookup t (.map (some b)) (dK.val x) c).run P w= .ok (if c then .tuple #[(iS m x).getD z,.bool (iS m x).isSome] else (iS m x).getD z) w:=by
 obtain ⟨es,clock,r,H1⟩:=H.VS;have hb:=H1.has 0;have hn:=r.nodup K.keyed;rcases fit_look c K.keyed ht hz hb r.fit (K.of x hx) with ⟨hr,kA,_⟩| ⟨e0,y,he,hke,hr,hy,_⟩
 .have:iS m x=none:=oa.2 λp hp e=>by
   have h1:lq p∈es.toList.map (rg P k eK):=r.perm.mem_iff.2 (by grind);obtain ⟨q,hq,hqe⟩:=bp.1 h1;obtain ⟨kl,hk,yX⟩:=mV r.fit hq;rw [yX] at hqe;have:kl=dK.lit p.1:=congrArg Prod.fst hqe;subst this;rw [e] at hk;exact kA q hq (K.inv _ _ hk).1
  grind
 .have:iS m x=some e0.val:=by
   refine lj hn ?_;obtain ⟨kl,hk,yX⟩:=mV r.fit he;have h1:rg P k eK e0∈m.map lq:=r.perm.mem_iff.1 (by grind);obtain ⟨p,hp,AJ⟩:=bp.1 h1;rw [yX] at AJ;have h2:dK.lit p.1=kl:=congrArg Prod.fst AJ;have h3:(DataW.held p.2:DataW Value)= .held e0.val:=congrArg Prod.snd AJ;rw [hke,K.of x hx] at hk
   grind [dK.inj]
  grind
theorem SL.P5 (H:SL W g w (mapA P k b m::l)) (K:xJ P k κ) {t e:TypeId} (ht:P.underlying t=some (.map k e)) (hlen:m.length< maxLen) (x:κ) (hx:dK.ok x) (v:Value):
  ∃ w',(Instr.mapUpdate t (.map (some b)) (dK.val x) v).run P w= .ok () w'/\SL W g w' (mapA P k b (qY m x v)::l):=by
 obtain ⟨es,clock,r,H1⟩:=H.VS;have hb:=H1.has 0;obtain ⟨OW,tF,hr,F',ajO,_⟩:=fit_store (R':=eK) K.keyed ht hb r.fit (by rw [r.size];omega) (by grind) (K.of x hx) (val:=v) (yv:=(.held v,[])) rfl;refine ⟨_,hr,(H1.zQ ⟨rfl,xD hb⟩).ajv ⟨F',?_⟩⟩;have h1:(OW.toList.map (rg P k eK)).Perm (putKey (dK.lit x) (.held v) ((es.toList.map (rg P k eK)).foldr DataW.insert [])):=by
  rw [<-ajO];exact (sorted_perm _).symm
 refine h1.trans ?_;have h2:∀ (p:Lit×DataW Value) (q:List (Lit×DataW Value)),(DataW.insert p q).Perm (p::q):=λp q=>by
  induction q with
  | nil=>rfl
  | cons a q ih=>
   unfold DataW.insert;split;rfl;exact (List.Perm.cons a ih).trans (List.Perm.swap _ _ _)
 refine (h2 _ _).trans ?_;unfold qY;refine List.Perm.cons _ ?_;rw [<-QD];exact ((sorted_perm _).trans r.perm).filter _
theorem SL.ZE (H:SL W g w (mapA P k b m::l)) {t e:TypeId} (ht:P.underlying t=some (.map k e)) (ty:TypeId):
  (Builtin.len_ #[t] ty #[.map (some b)]).run P w= .ok (.int .i64 m.length) w:=by
 obtain ⟨es,clock,r,H1⟩:=H.VS;have hb:=H1.has 0;rw [<-r.size];simp [Builtin.len_,run_underlying ht,MapKept.run_getObj_map hb,goInt,Result.andThen]
theorem VW {es:Array MapEntry} {clock:Nat} (F:Stamped es clock) {seen:Array Nat} {e:MapEntry} (he:e∈(leftOf es seen).toList):(leftOf es seen).toList.Perm (e::(leftOf es (seen.push e.born)).toList):=by
 have uI:=(stamped_iff es clock).1 F;have hes:=(mem_left he).2;have e1:(leftOf es (seen.push e.born)).toList=(leftOf es seen).toList.filter (λx=> !(x.born==e.born)):=by
  grind [leftOf,List.filter_filter,List.filter_congr]
 have e2:((leftOf es seen).toList.map (·.born)).Nodup:=by
  grind [leftOf]
 rw [e1];generalize (leftOf es seen).toList=L at he e2
 induction L with
 | nil=>cases he
 | cons x L ih=>
  simp only [cw,gj] at e2;rcases bm.1 he with h| h
  .subst h;rw [List.filter_cons];simp only [beq_self_eq_true,Bool.not_true,dQ,if_false];rw [lr.2 λy hy=>?_]
   grind
  .have:x.born≠e.born:=by grind
   rw [List.filter_cons];simp only [this,cY,beq_eq_false_iff_ne,ne_eq,not_false_eq_true,if_true];exact (List.Perm.cons x (ih h e2.2)).trans (List.Perm.swap _ _ _)
end
end Go.Lm
namespace Go.Lm
open Go Go.RowKit

theorem EE {P:Program} {w:World} (base:Nat) (t ty e:TypeId) (i:TypeInfo) (z:Value) (size bytes:Nat) (ht:P.underlying t=some (.slice e)) (hi:P.info? e=some i) (hz:i.zero=some z)
  (NA:i.size=size) (hby:i.bytes=bytes) (v:Value) (n:Nat) (xs:List Value) (JH:w.ownsRow base e size v n xs)
  (a:Addr) (m c:Nat) (news:List Value) (hl:news.length=m*size) (Z9:∀ j u,news[j]?=some u->w.cell? (a.add j)=some u) (h1:∀ u∈news,u.oneCell'=true)
  (h63:n+m<=maxLen) (aai:(n+m)*bytes<=140737488355328) {v':Value} {w':World} (hr:(Builtin.append_ #[t,t] ty #[v,.slice (some a) m c]).run P w= .ok v' w'):
  ∀ k,v'.ownBlock=some k->v.ownBlock=some k\/w.heap.size<=k:=by
 subst NA;subst hby
 have ajL:n+m<=9223372036854775807:=by assumption
 rcases JH.2 with ⟨rfl,rfl⟩| ⟨g,cap,cur,rfl,hbg,hg,hnc,ff,yZ,Nz⟩
 .by_cases hm:m=0
  .have jt:(Builtin.append_ #[t,t] ty #[.slice none 0 0,.slice (some a) 0 c]).run P w= .ok (.slice none 0 0) w:=by
    simp [Builtin.append_,run_underlying ht,sizeOf,typeInfo,hi,Builtin.lenOf,Builtin.firstCells,loadCells,loadCellsFrom]
   grind
  .rw [run_append_nil (P:=P) w t ty e i z ht hi hz a m c news hl Z9 (by omega) (by omega) (by grind)] at hr
   grind [Value.ownBlock]
 .by_cases Tv:n+m<=cap
  .have ap8:n*i.size+news.length<=cur.size:=by rw [hl,yZ,<-gR];exact kx _ Tv
   rw [run_append_room (P:=P) w t ty e i ht hi g n cap cur hg a m c news hl Z9 h1 Tv ap8] at hr;cases hr;exact λk hk=>.inl hk
  .have holds:∀ j u,xs[j]?=some u->w.cell? ((⟨g,0,none⟩:Addr).add j)=some u:=JH.cells (g:=g) rfl;rw [run_append_grow (P:=P) w t ty e i z ht hi hz ⟨g,0,none⟩ n cap xs JH.1 holds a m c news hl Z9 (by omega) (by omega) (growslice_fits (by omega) aai)] at hr
   grind [Value.ownBlock]
theorem uF {P:Program} (w:World) (t ty e:TypeId) (i:TypeInfo) (ht:P.underlying t=some (.slice e)) (hi:P.info? e=some i) {base:Nat} {v:Value} {n:Nat} {xs:List Value} (JH:w.ownsRow base e i.size v n xs):
  (Builtin.append_ #[t,t] ty #[v,.slice none 0 0]).run P w= .ok v w:=by
 rcases JH.2 with ⟨rfl,rfl⟩| ⟨g,cap,cur,rfl,hbg,hg,hnc,ff,yZ,Nz⟩;simp [Builtin.append_,run_underlying ht,sizeOf,typeInfo,hi,Builtin.lenOf,Builtin.firstCells];simp [Builtin.append_,run_underlying ht,sizeOf,typeInfo,hi,Builtin.lenOf,Builtin.firstCells,hnc,storeCells]
def uG (e:TypeId) (size:Nat) (v:Value) (n:Nat) (xs:List Value):Atom:=
 ⟨λ_ h=>xs.length=n*size/\((v= .slice none 0 0/\n=0)\/
  ∃ k cap cur,v= .slice (some ⟨k,0,none⟩) n cap/\h k=some (.cells cur e (0,0))/\n<=cap/\cap<=maxLen/\cur.size=cap*size/\cur.toList.take (n*size)=xs),λ_ s=>s⟩
section
variable {W:cV} {g w w':World} {l:List Atom} {e:TypeId} {size n:Nat} {v:Value} {xs:List Value}
theorem SL.row (H:SL W g w (uG e size v n xs::l)):w.ownsRow W.n e size v n xs:=by
 obtain ⟨h,be,s,ow,h1,h2,ap,rfl,⟨hl,hv⟩,s2⟩:=H;refine ⟨hl,?_⟩;rcases hv with hv| ⟨k,cap,cur,rfl,hk,r⟩
 .grind
 .obtain ⟨o1,o2,o3⟩:=ow k _ (Hp.fK hk);exact .inr ⟨k,cap,cur,rfl,o1,o2,r⟩
theorem SL.YX (e:TypeId) (size:Nat) (H:SL W g w l):SL W g w (uG e size (.slice none 0 0) 0 []::l):=
 H.cv λh s=>⟨λ_=>none,h,λ_=>.inl rfl,rfl,⟨by simp,.inl ⟨rfl,rfl⟩⟩,s⟩
theorem SL.wE {b cap:Nat} {cur:Array Value} (n:Nat) (H:SL W g w (Lm.pc b cur e::l)) (hn:n<=cap) (hm:cap<=maxLen) (hs:cur.size=cap*size):
  SL W g w (uG e size (.slice (some ⟨b,0,none⟩) n cap) n (cur.toList.take (n*size))::l):=H.cv λ_ ⟨h1,h2,ap,q,s1,s2⟩=>
 ⟨h1,h2,ap,q,⟨by
  simp_all,.inr ⟨b,cap,cur,rfl,s1,hn,hm,hs,rfl⟩⟩,s2⟩
theorem SL.ofRow (H:SL W g w (uG e size v n xs::l)):(v= .slice none 0 0/\n=0/\xs= []/\SL W g w l)\/
  ∃ k cap cur,v= .slice (some ⟨k,0,none⟩) n cap/\n<=cap/\cap<=maxLen/\cur.size=cap*size/\cur.toList.take (n*size)=xs/\SL W g w (Lm.pc k cur e::l):=by
 obtain ⟨h,be,s,ow,h1,h2,ap,rfl,⟨hl,hv⟩,s2⟩:=H;rcases hv with ⟨rfl,rfl⟩| ⟨k,cap,cur,rfl,hk,r1,r2,r3,r4⟩
 .refine .inl ⟨rfl,rfl,by grind,h2,be,s,λk x hx=>ow k x ?_,s2⟩;rcases ap k with q| q
  .grind [Hp.mz]
  grind
 .exact .inr ⟨k,cap,cur,rfl,r1,r2,r3,r4,_,be,s,ow,h1,h2,ap,rfl,hk,s2⟩
theorem SL.grown {v':Value} {n':Nat} {xs':List Value} (H:SL W g w (uG e size v n xs::l)) (ho:w'.ownsRow W.n e size v' n' xs') (hg:w.grownBy w' v.ownBlock)
  (hw:∀ k,v'.ownBlock=some k->v.ownBlock=some k\/w.heap.size<=k):SL W g w' (uG e size v' n' xs'::l):=by
 have fB:=H.row.lt;obtain ⟨h,be,s,ow,h1,h2,ap,rfl,⟨hl,hv⟩,s2⟩:=H;have hb:Below W.n W.w w':=be.trans ((Below.refl _ w).grown hg be.size (by grind));have apL:∀ k,v.ownBlock=some k->tQ g k/\∃ o,h1 k=some o:=λk hk=>by
  rcases hv with ⟨rfl,_⟩| ⟨k',cap,cur,rfl,AK,_⟩;trivial
  grind [Value.ownBlock,Hp.fK]
 have hs:qz W g w':=by
  refine ⟨⟨Nat.le_trans s.size hg.size,λa x hx=>?_⟩,s.agr⟩;have h1:=s.mono a x hx;have fB:=World.block_lt_of_cell? w a h1;have ja:some a.block≠v.ownBlock:=λq=>by
   have:=(apL a.block q.symm).1 a rfl
   grind
  rw [World.cell?_of_block (hg.block a.block fB ja)];exact h1
 have rest:∀ k x,h2 k=some x->W.n<=k/\w'.heap[k]?=some x/\tQ g k/\k< w.heap.size/\v.ownBlock≠some k:=λk x hx=>by
  have h1k:h1 k=none:=by
   rcases ap k with q| q;exact q
   grind
  obtain ⟨o1,o2,o3⟩:=ow k x (by rw [Hp.mz h1k];exact hx);have ja:v.ownBlock≠some k:=by grind
  exact ⟨o1,by rw [hg.block k (xD o2) (Ne.symm ja)];exact o2,o3,xD o2,ja⟩
 rcases ho.2 with ⟨rfl,rfl⟩| ⟨k',afr,akg,rfl,hbk,AK,r⟩;exact ⟨h2,hb,hs,by grind,λ_=>none,h2,λ_=>.inl rfl,rfl,⟨ho.1,by grind⟩,s2⟩
 .have hwk:=hw k' rfl;have h2k:h2 k'=none:=by
   cases hq:h2 k' with
   | none=>rfl
   | some x=>
    grind
  refine ⟨Hp.join (λq=>if q=k' then some (.cells akg e (0,0)) else none) h2,hb,hs,λq x hq=>?_,_,h2,λq=>?_,rfl,⟨ho.1,by grind⟩,s2⟩
  .by_cases eq:q=k'
   .subst eq;have:x= .cells akg e (0,0):=by grind [Hp.join]
    subst this;refine ⟨hbk,AK,?_⟩;rcases hwk with z| z
    .grind
    .intro a ha;cases hc:g.cell? a with
     | none=>rfl
     | some x=>
      have h3:=World.block_lt_of_cell? g a hc;have h4:=s.size;omega
   grind [Hp.join]
  grind
end

theorem eF.length {α:Type} [aQ α] {g:World}:∀ {cs:List (List Value)} {xs:List α},eF g cs xs->cs.length=xs.length/\cs.flatten.length=xs.length*aQ.size α
 | [],[],_=>by grind
 | c::cs,x::xs,h=>by
  obtain ⟨h1,h2⟩:=eF.length h.2;have h3:=aQ.len h.1;refine ⟨by simp [h1],?_⟩;rw [dz,af,h2,h3,av,gR];omega
theorem eF.append {α:Type} [aQ α] {g:World}:∀ {cs ds:List (List Value)} {xs ys:List α},eF g cs xs->eF g ds ys->eF g (cs++ds) (xs++ys)
 | [],_,[],_,_,h=>h
 | _::_,_,_::_,_,h,k=>⟨h.1,eF.append h.2 k⟩
def B6 {α:Type} [aQ α] (e:TypeId) (v:Value) (xs:List α):Atom:=
 ⟨λg h=>∃ cs:List (List Value),eF g cs xs/\(uG e (aQ.size α) v xs.length cs.flatten).sat g h,λm ⟨cs,r,s⟩=>⟨cs,r.mono m,s⟩⟩
section
variable {α:Type} [aQ α] {W:cV} {g w w':World} {l:List Atom} {e:TypeId} {v:Value} {xs:List α}
theorem SL.pD (H:SL W g w (B6 e v xs::l)):∃ cs:List (List Value),eF g cs xs/\SL W g w (uG e (aQ.size α) v xs.length cs.flatten::l):=by
 obtain ⟨h,be,s,ow,h1,h2,ap,rfl,⟨cs,r,q⟩,s2⟩:=H;exact ⟨cs,r,_,be,s,ow,h1,h2,ap,rfl,q,s2⟩
theorem SL.YG {cs:List (List Value)} (r:eF g cs xs) (H:SL W g w (uG e (aQ.size α) v xs.length cs.flatten::l)):SL W g w (B6 e v xs::l):=
 H.cv λ_ ⟨h1,h2,ap,q,s1,s2⟩=>⟨h1,h2,ap,q,⟨cs,r,s1⟩,s2⟩
theorem SL.zT (α:Type) [aQ α] (e:TypeId) (H:SL W g w l):SL W g w (B6 (α:=α) e (.slice none 0 0) []::l):=(H.YX e (aQ.size α)).YG (cs:=[]) trivial
theorem SL.ai4 (H:SL W g w (B6 e v xs::l)):acV g w W.n e v xs:=by
 obtain ⟨cs,r,H1⟩:=H.pD;exact ⟨cs,r,H1.row⟩
theorem SL.agk (H:SL W g w (B6 e v xs::l)):Is w v xs:=H.ai4.is H.m (by grind)
theorem SL.qF (H:SL W g w (B6 e v xs::l)):∃ g',bt g g'/\SL W g' w l/\Is g' v xs:=by
 obtain ⟨cs,r,H1⟩:=H.pD;rcases H1.ofRow with ⟨rfl,hn,hx,H2⟩| ⟨k,cap,cur,rfl,h1,h2,h3,h4,H2⟩
 .grind [bt.refl,ajB]
 .obtain ⟨g',m,H3,hc⟩:=H2.agN;refine ⟨g',m,H3,dE.2 (.inr ⟨⟨k,0,none⟩,cap,rfl,h1,h2,λi x hx=>?_⟩)⟩;obtain ⟨c,hr,TA⟩:=r.get i x hx;refine ⟨c,λj v hj=>?_,aQ.mono m hr⟩
  grind [Addr.add_mid]
theorem N7 {ys:List α} {a:Addr} {n c:Nat} (h:Is w (.slice (some a) n c) ys):n=ys.length/\∃ ds:List (List Value),eF w ds ys/\∀ j u,ds.flatten[j]?=some u->w.cell? (a.add j)=some u:=by
 rcases dE.1 h with ⟨h,_⟩| ⟨a',cap,h,_,_,h3⟩;cases h
 .cases h;have key:∀ (ys:List α) (a:Addr),(∀ (i:Nat) (x:α),ys[i]?=some x->∃ cs:List Value,(∀ (j:Nat) (c:Value),cs[j]?=some c->w.cell? (a.add (i*aQ.size α+j))=some c)/\aQ.rel w cs x)->
    ∃ ds:List (List Value),eF w ds ys/\∀ j u,ds.flatten[j]?=some u->w.cell? (a.add j)=some u:=by
   intro ys
   induction ys with
   | nil=>exact λ_ _=>⟨[],trivial,by grind⟩
   | cons y ys ih=>
    intro a h;obtain ⟨c,h1,h2⟩:=h 0 y rfl;have hl:=aQ.len h2;obtain ⟨ds,h4,h5⟩:=ih (a.add (aQ.size α)) λi x hx=>by
     obtain ⟨cs,q1,q2⟩:=h (i+1) x (by simpa using hx)
     grind [Go.Deep.add_add]
    refine ⟨c::ds,⟨h2,h4⟩,λj u hj=>?_⟩
    grind [Go.Deep.add_add]
  simp_all
theorem Dy {ys:List α} {a:Addr} {n c:Nat} {g w:World} (h:Is g (.slice (some a) n c) ys) (m:bt g w):n=ys.length/\∃ ds:List (List Value),eF g ds ys/\∀ j u,ds.flatten[j]?=some u->w.cell? (a.add j)=some u:=by
 obtain ⟨h1,ds,h2,h3⟩:=N7 h;exact ⟨h1,ds,h2,λj u hj=>m _ _ (h3 j u hj)⟩
class iU (α:Type) [aQ α]:Prop where
 one:∀ {g:World} {cs:List Value} {x:α},aQ.rel g cs x->∀ u∈cs,u.oneCell'=true
theorem eF.one [iU α] {g:World}:∀ {cs:List (List Value)} {xs:List α},eF g cs xs->∀ u∈cs.flatten,u.oneCell'=true
 | [],[],_,u,h=>by grind
 | c::cs,x::xs,h,u,hu=>by
  rw [dz,aV] at hu;rcases hu with hu| hu;exact iU.one h.1 u hu;exact eF.one h.2 u hu
instance:iU Int:=⟨λh u hu=>by rw [h.1] at hu;simp at hu;rw [hu];rfl⟩
instance:iU Bool:=⟨λh u hu=>by rw [show _=_ from h] at hu;simp at hu;rw [hu];rfl⟩
instance:iU UInt8:=⟨λh u hu=>by rw [show _=_ from h] at hu;simp at hu;rw [hu];rfl⟩
instance:iU ByteArray:=⟨λh u hu=>by rw [h.1] at hu;simp at hu;rw [hu];rfl⟩
instance:iU (List α):=⟨λh u hu=>by
 obtain ⟨v,rfl,hv⟩:=h;simp at hu;subst hu;rcases hv with ⟨rfl,_⟩| ⟨a,cap,rfl,_⟩<;>rfl⟩
def Rd {α:Type} [aQ α] (g w:World) (y:Value) (ys:List α):Prop:=
 (y= .slice none 0 0/\ys= [])\/∃ a c,y= .slice (some a) ys.length c/\ys.length<=c/\c<=maxLen/\∃ ds:List (List Value),eF g ds ys/\∀ j u,ds.flatten[j]?=some u->w.cell? (a.add j)=some u
theorem Is.rd {y:Value} {ys:List α} (h:Is g y ys) (m:bt g w):Rd g w y ys:=by
 rcases dE.1 h with ⟨rfl,rfl⟩| ⟨a,cap,rfl,h1,h2,_⟩;exact .inl ⟨rfl,rfl⟩
 .obtain ⟨_,ds,h3,h4⟩:=Dy h m;exact .inr ⟨a,cap,rfl,h1,h2,ds,h3,h4⟩
theorem SL.amA (H:SL W g w (B6 e v xs::l)):Rd g w v xs:=by
 obtain ⟨cs,r,H1⟩:=H.pD;have tx:=H1.row;rcases tx.2 with ⟨rfl,h0⟩| ⟨k,cap,cur,rfl,_,_,h1,h2,_⟩;exact .inl ⟨rfl,bB h0⟩;exact .inr ⟨⟨k,0,none⟩,cap,rfl,h1,h2,cs,r,tx.cells (g:=k) rfl⟩
theorem eF.part {g:World}:∀ {cs:List (List Value)} {xs:List α} (i n:Nat),eF g cs xs->eF g ((cs.drop i).take n) ((xs.drop i).take n)
 | cs,xs,0,0,_=>by simp [eF]
 | [],[],0,_+1,_=>trivial
 | _::_,_::_,0,n+1,h=>⟨h.1,by simpa using eF.part 0 n h.2⟩
 | [],[],i+1,n,h=>by simp [eF]
 | _::cs,_::xs,i+1,n,h=>by simpa using eF.part i n h.2
theorem eF.JR {g:World}:∀ {cs:List (List Value)} {xs:List α} (i:Nat),eF g cs xs->i<=xs.length->(cs.take i).flatten.length=i*aQ.size α
 | _,_,0,_,_=>by simp
 | [],[],i+1,_,hi=>by simp at hi
 | c::cs,x::xs,i+1,h,hi=>by
  have:=eF.JR i h.2 (by simpa using hi);simp only [List.take_succ_cons,dz,af,this,aQ.len h.1,gR];omega
theorem Rd.slice {y:Value} {ys:List α} {a b:Int} (h:Rd g w y ys) (ha:0<=a) (hab:a<=b) (hb:b<=ys.length):
  Rd g w (jB (aQ.size α) y a b) ((ys.drop a.toNat).take (b.toNat - a.toNat)):=by
 rcases h with ⟨rfl,rfl⟩| ⟨ad,c,rfl,h1,h2,ds,h3,h4⟩
 .left;simp at hb;have h1:b=0:=by omega
  have h2:a=0:=by omega
  subst h1 h2;trivial
 .have hlen:((ys.drop a.toNat).take (b.toNat - a.toNat)).length=b.toNat - a.toNat:=by grind
  refine .inr ⟨if c=a.toNat then ad else ad.add (a.toNat*aQ.size α),c - a.toNat,?_,by omega,by omega,(ds.drop a.toNat).take (b.toNat - a.toNat),h3.part _ _,λj u hj=>?_⟩
  .grind [jB]
  .by_cases he:b.toNat - a.toNat=0
   .grind
   .rw [if_neg (by omega),Go.Deep.add_add];refine h4 _ u ?_;have e1:ds=ds.take a.toNat++((ds.drop a.toNat).take (b.toNat - a.toNat)++(ds.drop a.toNat).drop (b.toNat - a.toNat)):=by grind [bK]
    rw [e1,jz,jz,bD (by rw [h3.JR a.toNat (by omega)];omega),h3.JR a.toNat (by omega)]
    grind
theorem SL.append {P:Program} {t ty:TypeId} {bytes:Nat} [iU α] (H:SL W g w (B6 e v xs::l)) {y:Value} {ys:List α} (hy:Rd g w y ys)
  (ht:P.underlying t=some (.slice e)) (hi:(P.info? e).map (λi=>(i.size,i.bytes,i.zero.isSome))=some (aQ.size α,bytes,true)) (hz:((P.info? e).bind (·.zero)).map (·.cells.size)=some (aQ.size α)) (xj:0< aQ.size α)
  (hlen:(xs.length+ys.length)*bytes<=140737488355328) (ar8:xs.length+ys.length<=9223372036854775807):
  ∃ v' w',(Builtin.append_ #[t,t] ty #[v,y]).run P w= .ok v' w'/\SL W g w' (B6 e v' (xs++ys)::l)/\(v'= .slice none 0 0->v= .slice none 0 0/\ys= []):=by
 cases hq:P.info? e with
 | none=>grind
 | some i=>
  simp only [hq,Option.map_some,Option.some.injEq,Prod.mk.injEq,Option.bind_some] at hi hz;obtain ⟨hs,hby,hzz⟩:=hi;cases Xe:i.zero with
  | none=>grind
  | some z=>
   simp only [Xe,Option.map_some,Option.some.injEq] at hz;obtain ⟨cs,hrel,H1⟩:=H.pD;have tx:=H1.row;rcases hy with ⟨rfl,rfl⟩| ⟨a,cap,rfl,JL,ff,ds,Wa,qm⟩
   .grind [uF]
   .have agT:=(eF.length Wa).2;obtain ⟨v',w',jt,Z7,NF,ae0⟩:=run_append_own (P:=P) w W.n t ty e i z (aQ.size α) bytes ht hq Xe hs hby hz xj v xs.length cs.flatten tx a ys.length cap ds.flatten agT
     qm (eF.one Wa) (by assumption) hlen H.size
    have Qh:=EE (P:=P) W.n t ty e i z (aQ.size α) bytes ht hq Xe hs hby v xs.length cs.flatten tx a ys.length cap ds.flatten agT qm (eF.one Wa) (by assumption) hlen jt;refine ⟨v',w',jt,?_,by grind⟩;refine SL.YG (cs:=cs++ds) (hrel.append Wa) ?_;have e1:(cs++ds).flatten=cs.flatten++ds.flatten:=by simp
    rw [e1,af];exact H1.grown Z7 NF Qh
end
theorem cells_slice1 {P:Program} {w:World} {r:Reach} {base:Nat} {t e:TypeId} {v:Value} (ht:P.underlying t=some (.slice e)) (h:Value.okWide P w r base t v):v.cells= #[v]:=by
 obtain ⟨a,l,c,rfl⟩:=WideShapes.okWide_slice ht h;rfl
end Go.Lm

namespace Go.Lm
open Go Go.RowKit
section
variable {P:Program}
end
end Go.Lm
namespace Go.Lm
open Go Go.RowKit
section
variable {P:Program}
theorem Kg {ρ:Operand->Value} {w:World} {o:Oper} {x:Operand} {t k e:TypeId} (ho:o.op= .call {callee:=.builtin .len,args:= #[x],argTypes:= #[t]}) (ht:P.underlying t=some (.map k e)) (hx:ρ x= .map none):
  (execOp ρ o).run P w= .ok (.value (.int .i64 0)) w:=by
 simp [execOp,ho,resolve,invoke,builtin,hx,Maps.len_nil ht]
end
end Go.Lm
namespace Go.Lm
open Go Go.RowKit Go.Maps Go.ChangeMaps
open Go.WideElems (Fit rd rg pl rd_key rd_val rg_of)
open Go.WideShapes (sorted_perm)
open Go.MapKept
section
variable {κ:Type} [dK κ] {P:Program} {k:TypeId}
def Xa (P:Program) (k:TypeId) (w:World) (v:Value) (ob:Array MapEntry×Nat) (m:List (κ×Value)):Prop:=
 (v= .map none/\m= [])\/∃ b,v= .map (some b)/\w.heap[b]?=some (.map ob.1 ob.2)/\lP P k ob.1 ob.2 m
def Kl (P:Program) (k:TypeId) (w:World) (v:Value) (m:List (κ×Value)):Prop:=∃ ob,Xa P k w v ob m
variable {w w':World} {v:Value} {ob:Array MapEntry×Nat} {m:List (κ×Value)}
theorem Kl.nodup (h:Kl P k w v m) (K:xJ P k κ):(m.map (·.1)).Nodup:=by
 obtain ⟨ob,h| ⟨b,_,_,h⟩⟩:=h
 .grind
 .exact h.nodup K.keyed
theorem Kl.ZH (h:Kl P k w v m):m.length<=maxLen:=by
 obtain ⟨ob,h| ⟨b,_,_,h⟩⟩:=h
 .grind
 .rw [<-h.size];exact h.fit.size
theorem Kl.len {t e:TypeId} (h:Kl P k w v m) (ht:P.underlying t=some (.map k e)) (ty:TypeId):(Builtin.len_ #[t] ty #[v]).run P w= .ok (.int .i64 m.length) w:=by
 obtain ⟨ob,⟨rfl,rfl⟩| ⟨b,rfl,hb,r⟩⟩:=h
 .grind [Maps.len_nil]
 .rw [<-r.size];simp [Builtin.len_,run_underlying ht,MapKept.run_getObj_map hb,goInt,Result.andThen]
theorem Kl.look (c:Bool) (h:Kl P k w v m) (K:xJ P k κ) {t e:TypeId} (ht:P.underlying t=some (.map k e)) {z:Value} (hz:(zeroValue e).run P w= .ok z w) (x:κ) (hx:dK.ok x):
  (Instr.lookup t v (dK.val x) c).run P w= .ok (if c then .tuple #[(iS m x).getD z,.bool (iS m x).isSome] else (iS m x).getD z) w:=by
 obtain ⟨ob,⟨rfl,rfl⟩| ⟨b,rfl,hb,r⟩⟩:=h
 .have:=Maps.look_nil c K.keyed ht hz (K.of x hx)
  assumption
 .have hn:=r.nodup K.keyed;rcases fit_look c K.keyed ht hz hb r.fit (K.of x hx) with ⟨hr,kA,_⟩| ⟨e0,y,he,hke,hr,hy,_⟩
  .have:iS m x=none:=oa.2 λp hp e=>by
    have h1:lq p∈ob.1.toList.map (rg P k eK):=r.perm.mem_iff.2 (by grind);obtain ⟨q,hq,hqe⟩:=bp.1 h1;obtain ⟨kl,hk,yX⟩:=mV r.fit hq;rw [yX] at hqe;have:kl=dK.lit p.1:=congrArg Prod.fst hqe;subst this;rw [e] at hk;exact kA q hq (K.inv _ _ hk).1
   grind
  .have:iS m x=some e0.val:=by
    refine lj hn ?_;obtain ⟨kl,hk,yX⟩:=mV r.fit he;have h1:rg P k eK e0∈m.map lq:=r.perm.mem_iff.1 (by grind);obtain ⟨p,hp,AJ⟩:=bp.1 h1;rw [yX] at AJ;have h2:dK.lit p.1=kl:=congrArg Prod.fst AJ;have h3:(DataW.held p.2:DataW Value)= .held e0.val:=congrArg Prod.snd AJ;rw [hke,K.of x hx] at hk
    grind [dK.inj]
   grind
variable {W:cV} {g:World} {l:List Atom}
theorem SL.aeJ {b:Nat} (H:SL W g w (mapA P k b m::l)):Kl P k w (.map (some b)) m:=by
 obtain ⟨es,clock,r,H1⟩:=H.VS;exact ⟨(es,clock),.inr ⟨b,rfl,H1.has 0,r⟩⟩
def Nt (P:Program) (k:TypeId) (v:Value) (ob:Array MapEntry×Nat) (r:Nat) (left:List (κ×Value)):Atom:=
 ⟨λ_ h=>(v= .map none/\left= []/\∃ a s c,h r=some (.mapIter none a s c))\/
  ∃ b since seen c0,v= .map (some b)/\h r=some (.mapIter (some b) since seen c0)/\(∀ x∈ob.1.toList,x.born< since)/\since<=c0/\since<=ob.2/\((leftOf ob.1 seen).toList.map (rg P k eK)).Perm (left.map lq),λ_ s=>s⟩
theorem Vn {t e:TypeId} (h:Xa P k w v ob m) (ht:P.underlying t=some (.map k e)):
  ∃ o,(Instr.range t v).run P w= .ok (.pointer (some ⟨w.heap.size,0,none⟩)) (w.alloc o)/\∀ {W:cV} {g:World} {l:List Atom},SL W g w l->SL W g (w.alloc o) (Nt P k v ob w.heap.size m::l):=by
 rcases h with ⟨rfl,rfl⟩| ⟨b,rfl,hb,r⟩
 .refine ⟨_,run_range_nilMap w t k e ht,λH=>?_⟩;exact (H.new (xH.mk' w _)).cv λ_ ⟨h1,h2,ap,e,s1,s2⟩=>⟨h1,h2,ap,e,.inl ⟨rfl,rfl,_,_,_,s1⟩,s2⟩
 .refine ⟨_,run_range_map w t k e b ob.1 ob.2 ht hb,λH=>?_⟩;refine (H.new (xH.mk' w _)).cv λ_ ⟨h1,h2,ap,e,s1,s2⟩=>⟨h1,h2,ap,e,.inr ⟨b,ob.2,#[],ob.2,rfl,s1,r.fit.stamped.1,aG _,aG _,?_⟩,s2⟩;have:(leftOf ob.1 #[]).toList=ob.1.toList:=by simp [leftOf]
  rw [this];exact r.perm
theorem Ii {w:World} {r a c:Nat} {s:Array Nat} (ty:TypeId) (hr:w.heap[r]?=some (.mapIter none a s c)):(Instr.next (.pointer (some ⟨r,0,none⟩)) false ty).run P w= .ok (.tuple #[.bool false]) w:=by
 simp_all [Instr.next,getObj,Sem.run]
theorem xF {ρ:Operand->Value} {o:Oper} {x y:Operand} {t:TypeId} {c:Bool} {mv kv r:Value} (ho:o.op= .lookup t x y c) (hx:ρ x=mv) (hy:ρ y=kv) (h:(Instr.lookup t mv kv c).run P w= .ok r w):
  (execOp ρ o).run P w= .ok (.value r) w:=by
 simp_all [execOp]
theorem zA {ρ:Operand->Value} {o:Oper} {t:TypeId} (ho:o.op= .makeMap t none):(execOp ρ o).run P w= .ok (.value (.map (some w.heap.size))) (w.alloc (.map #[] 0)):=by
 simp_all [execOp,Instr.makeMap]
theorem OI {ρ:Operand->Value} {o:Oper} {x y z:Operand} {t:TypeId} {mv kv vv:Value} {w':World} (ho:o.op= .mapUpdate t x y z) (hx:ρ x=mv) (hy:ρ y=kv) (hz:ρ z=vv) (h:(Instr.mapUpdate t mv kv vv).run P w= .ok () w'):
  (execOp ρ o).run P w= .ok .skip w':=by
 simp_all [execOp]
end
end Go.Lm
namespace Go.Lm
open Go Go.RowKit Go.Maps Go.ChangeMaps
open Go.WideElems (Fit rd rg pl rd_key rd_val rg_of)
open Go.WideShapes (sorted_perm)
open Go.MapKept
section
variable {κ:Type} [dK κ] {P:Program} {k:TypeId} {W:cV} {g w:World} {l:List Atom} {v:Value} {ob:Array MapEntry×Nat} {m:List (κ×Value)}
def mL (P:Program) (k:TypeId) (v:Value) (ob:Array MapEntry×Nat) (r:Nat) (left:List (κ×Value)) (cur:Option (κ×Value)):Atom:=
 ⟨λg h=>(Nt P k v ob r left).sat g h/\∀ x y,cur=some (x,y)->∃ b since seen e,v= .map (some b)/\h r=some (.mapIter (some b) since (Array.push seen (MapEntry.born e)) ob.2)/\e∈ob.1.toList/\e.key=dK.val x/\e.val=y,λmm s=>⟨(Nt P k v ob r left).mono mm s.1,s.2⟩⟩
theorem SL.ajz {r:Nat} {left:List (κ×Value)} {cur:Option (κ×Value)} (H:SL W g w (mL P k v ob r left cur::l)):SL W g w (Nt P k v ob r left::l):=H.cv λ_ ⟨h1,h2,ap,e,s1,s2⟩=>⟨h1,h2,ap,e,s1.1,s2⟩
theorem SL.ajA {r:Nat} {left:List (κ×Value)} (H:SL W g w (Nt P k v ob r left::l)):SL W g w (mL P k v ob r left none::l):=H.cv λ_ ⟨h1,h2,ap,e,s1,s2⟩=>⟨h1,h2,ap,e,⟨s1,λ_ _ h=>by cases h⟩,s2⟩
theorem SL.V1 {r:Nat} {left:List (κ×Value)} {x:κ} {y:Value} (H:SL W g w (mL P k v ob r left (some (x,y))::l)) (hm:Xa P k w v ob m):(Instr.entry (.pointer (some ⟨r,0,none⟩))).run P w= .ok (.tuple #[dK.val x,y]) w:=by
 obtain ⟨h,be,s,ow,h1,h2,ap,rfl,⟨_,q⟩,s2⟩:=H;obtain ⟨b,since,seen,e,hv,hr,hem,hk,hy⟩:=q x y rfl;rcases hm with ⟨hm,_⟩| ⟨b',hm,hbw,rep⟩
 .grind
 have:b=b':=by grind
 subst this;have hrw:=(ow r _ (Hp.fK hr)).2.1;obtain ⟨es,clock⟩:=ob;rw [<-hk,<-hy];exact run_entry_at _ r b since seen es clock e hrw hbw hem ((stamped_iff es clock).1 rep.fit.stamped).2.1
theorem SL.Qd {r:Nat} {left:List (κ×Value)} {x:κ} {y:Value} (H:SL W g w (mL P k v ob r left (some (x,y))::l)) (hm:Xa P k w v ob m) (K:xJ P k κ) (ass:∀ a b:κ,dK.val a=dK.val b->a=b):dK.ok x/\(x,y)∈m:=by
 obtain ⟨h,be,s,ow,h1,h2,ap,rfl,⟨_,q⟩,s2⟩:=H;obtain ⟨b,since,seen,e,hv,hr,hem,hk,hy⟩:=q x y rfl;rcases hm with ⟨hm,_⟩| ⟨b',hm,hbw,rep⟩
 .grind
 obtain ⟨kl,ND,yX⟩:=mV rep.fit hem;have aad:rg P k eK e∈m.map lq:=rep.perm.mem_iff.1 (by grind);obtain ⟨p2,hp2,Qj⟩:=bp.1 aad;rw [yX] at Qj;have q1:dK.lit p2.1=kl:=congrArg Prod.fst Qj;have q2:(DataW.held p2.2:DataW Value)= .held e.val:=congrArg Prod.snd Qj;subst q1;obtain ⟨hkv,sa⟩:=K.inv _ _ ND
 grind
theorem Qe {r:Nat} {left mK:List (κ×Value)} {cur:Option (κ×Value)} {h:Hp} (p:left.Perm mK) (s:(mL P k v ob r left cur).sat g h):(mL P k v ob r mK cur).sat g h:=by
 refine ⟨?_,s.2⟩;rcases s.1 with ⟨h1,h2,h3⟩| ⟨b,since,seen,c0,h1,h2,h3,h4,h5,h6⟩;exact .inl ⟨h1,by rw [h2] at p;exact p.symm.eq_nil,h3⟩;exact .inr ⟨b,since,seen,c0,h1,h2,h3,h4,h5,h6.trans (p.map lq)⟩
theorem SL.V0 {r:Nat} {left:List (κ×Value)} {cur:Option (κ×Value)} (H0:SL W g w (mL P k v ob r left cur::l)) (hm:Xa P k w v ob m) (K:xJ P k κ) (ty:TypeId):
  (left= []/\(Instr.next (.pointer (some ⟨r,0,none⟩)) false ty).run P w= .ok (.tuple #[.bool false]) w)\/
  ∃ x y mK w',left.Perm ((x,y)::mK)/\dK.ok x/\(x,y)∈m/\(Instr.next (.pointer (some ⟨r,0,none⟩)) false ty).run P w= .ok (.tuple #[.bool true,dK.val x,y]) w'/\SL W g w' (mL P k v ob r mK (some (x,y))::l):=by
 have H:=H0.ajz;obtain ⟨h,be,s,ow,h1,h2,ap,rfl,q,s2⟩:=H;rcases q with ⟨rfl,rfl,a,sn,c,hr⟩| ⟨b,since,seen,c0,rfl,hr,hold,hsc,hsk,anh⟩;exact .inl ⟨rfl,by grind [Ii,Hp.fK]⟩;obtain ⟨hW,hrw,hrn⟩:=ow r _ (Hp.fK hr);rcases hm with ⟨hm,_⟩| ⟨b',hm,hbw,rep⟩;cases hm;have:b=b':=by grind
 subst this;obtain ⟨es,clock⟩:=ob;rcases run_next_at (P:=P) w ty r b since c0 seen es clock hrw hbw hold hsc with ⟨h0,jt⟩| ⟨e,he,w1,hal,jt⟩
 .simp_all
 .right;obtain ⟨hem,hes⟩:=mem_left he;obtain ⟨kl,hk,yX⟩:=mV rep.fit hem;have yY:rg P k eK e∈left.map lq:=by grind
  have aad:rg P k eK e∈m.map lq:=rep.perm.mem_iff.1 (by grind);obtain ⟨p,hp,AJ⟩:=bp.1 yY;rw [yX] at AJ;have e1:dK.lit p.1=kl:=congrArg Prod.fst AJ;have e2:(DataW.held p.2:DataW Value)= .held e.val:=congrArg Prod.snd AJ;subst e1;obtain ⟨hkv,sa⟩:=K.inv _ _ hk;obtain ⟨a,c,hac⟩:=List.append_of_mem hp;have hwl:Le w w1:=by rcases hal with rfl| rfl;exact Le.refl _;exact Le.drew _
  have wj:w1.heap[r]?=some (.mapIter (some b) since seen c0):=hwl.jH hrw;have u:qy w1 r (.mapIter (some b) since (seen.push e.born) clock) (setBlock w1 r (.mapIter (some b) since (seen.push e.born) clock)):=⟨rfl,xD wj⟩;have arP:p=(p.1,e.val):=by grind
  refine ⟨p.1,e.val,a++c,_,?_,sa,?_,by rw [hkv] at jt;exact jt,?_⟩
  .grind [List.perm_middle]
  .obtain ⟨p2,hp2,Qj⟩:=bp.1 aad;rw [yX] at Qj;have q1:dK.lit p2.1=dK.lit p.1:=congrArg Prod.fst Qj;have q2:(DataW.held p2.2:DataW Value)= .held e.val:=congrArg Prod.snd Qj
   grind [dK.inj]
  .have hle:=SL.le (l:=[]) (W:=W) (g:=g) ⟨λ_=>none,be,s,by grind,trivial⟩ hwl;refine ⟨Hp.join (λq=>if q=r then some (.mapIter (some b) since (seen.push e.born) clock) else h1 q) h2,u.below hle.below hW,hle.agm.BU hrn u,λq o hq=>?_,_,h2,λq=>?_,rfl,
    ⟨.inr ⟨b,since,seen.push e.born,clock,rfl,if_pos rfl,hold,hsk,hsk,?_⟩,λx y hxy=>?_⟩,s2⟩
   .by_cases eq:q=r
    .subst eq;have:o= .mapIter (some b) since (seen.push e.born) clock:=by grind [Hp.join]
     subst this;exact ⟨hW,u.here,hrn⟩
    .have Xg:(h1.join h2) q=some o:=by grind [Hp.join]
     obtain ⟨o1,o2,o3⟩:=ow q o Xg;exact ⟨o1,u.jH eq (hwl.jH o2),o3⟩
   .by_cases eq:q=r
    .subst eq;rcases ap q with z| z
     .grind
     grind
    .rcases ap q with z| z
     .grind
     grind
   .have h3:=(VW rep.fit.stamped he).map (rg P k eK);rw [cw,yX] at h3;have h4:(left.map lq).Perm (lq p::(a++c).map lq):=by
     grind [List.perm_middle]
    have h5:=(anh.symm.trans h3).symm.trans h4
    grind [List.Perm.cons_inv]
   grind
end
end Go.Lm
namespace Go.Lm
open Go Go.RowKit Go.Maps Go.ChangeMaps
open Go.WideElems (Fit rd rg pl rd_key rd_val rg_of)
open Go.WideShapes (sorted_perm)
open Go.MapKept
section
variable {κ:Type} [dK κ] {P:Program} {k:TypeId} {W:cV} {g w:World} {l:List Atom} {m:List (κ×Value)} {b:Nat}
def ac1 (w w':World):Prop:=∀ (b:Nat) (cs:Array Value) (t:TypeId),HN w b cs t->HN w' b cs t
theorem VY {es:Array MapEntry} {c:Nat} {o:Obj} (h:w.heap[b]?=some (.map es c)):ac1 w (setBlock w b o):=λk cs t hk=>by
 have ja:b≠k:=λe=>by
  subst e;unfold HN at hk;rw [h] at hk;cases hk
 unfold HN at*;simp only [setBlock];rw [Array.getElem?_setIfInBounds_ne ja];exact hk
def GJ (P:Program) (k:TypeId) (b:Nat) (m:List (κ×Value)) (x:κ) (st:Nat):Atom:=
 ⟨λ_ h=>∃ es clock,h b=some (.map es clock)/\lP P k es clock m/\∃ e∈es.toList,e.key=dK.val x/\e.born=st,λ_ s=>s⟩
theorem Ek {t e:TypeId} {es:Array MapEntry} {clock:Nat} {key z:Value} {kl:Lit} (K:Keyed P k) (ht:P.underlying t=some (.map k e)) (hz:(zeroValue e).run P w= .ok z w) (hb:w.heap[b]?=some (.map es clock)) (F:Fit P k eK es clock) (Dh:keyOf P k key=some kl):
  ∃ (val:Value) (st:Nat) (OW:Array MapEntry) (tF:Nat),(Instr.mapEntry t (.map (some b)) key).run P w= .ok (.tuple #[val,goInt st]) (setBlock w b (.map OW tF))/\(Instr.mapUpdate t (.map (some b)) key val).run P w= .ok () (setBlock w b (.map OW tF))/\(∃ e∈OW.toList,e.key=key/\e.born=st)/\((val=z/\∀ e∈es.toList,e.key≠key)\/∃ e∈es.toList,e.key=key/\e.val=val):=by
 rcases K.find w Dh es.toList F.keys with ⟨h1,h2⟩| ⟨j,e0,h1,h2,h3⟩
 .refine ⟨z,clock,es.push ⟨key,z,clock⟩,clock+1,?_,?_,by simp,by grind⟩
  .simp [Instr.mapEntry,run_underlying ht,MapKept.run_getObj_map hb,K.check w false Dh,h1,hz,MapKept.run_setObj_map _ hb,Result.andThen,setBlock]
  .simp [Instr.mapUpdate,run_underlying ht,MapKept.run_getObj_map hb,K.check w false Dh,h1,MapKept.run_setObj_map _ hb,Result.andThen,setBlock]
 .have hj:es[j]?=some e0:=by grind
  have hm:(es.modify j λe=> {e with key:=key})=es.modify j λe=> {e with key:=key,val:=e0.val}:=by
   grind
  refine ⟨e0.val,e0.born,es.modify j λe=> {e with key:=key,val:=e0.val},clock,?_,?_,⟨{e0 with key:=key,val:=e0.val},?_,rfl,rfl⟩,by grind⟩;simp [Instr.mapEntry,run_underlying ht,MapKept.run_getObj_map hb,K.check w false Dh,h1,hj,h3,K.stays w Dh,MapKept.run_setObj_map _ hb,Result.andThen,setBlock,hm];simp [Instr.mapUpdate,run_underlying ht,MapKept.run_getObj_map hb,K.check w false Dh,h1,hj,h3,K.stays w Dh,MapKept.run_setObj_map _ hb,Result.andThen,setBlock]
  .refine kz (i:=j) ?_
   grind
theorem lP.get_none {es:Array MapEntry} {clock:Nat} (r:lP P k es clock m) (K:xJ P k κ) {x:κ} (h:∀ e∈es.toList,e.key≠dK.val x):iS m x=none:=oa.2 λp hp e=>by
 have h1:lq p∈es.toList.map (rg P k eK):=r.perm.mem_iff.2 (by grind);obtain ⟨q,hq,hqe⟩:=bp.1 h1;obtain ⟨kl,hk,yX⟩:=mV r.fit hq;rw [yX] at hqe;have:kl=dK.lit p.1:=congrArg Prod.fst hqe;subst this;rw [e] at hk;exact h q hq (K.inv _ _ hk).1
theorem lP.get_some {es:Array MapEntry} {clock:Nat} (r:lP P k es clock m) (K:xJ P k κ) {x:κ} (hx:dK.ok x) {e0:MapEntry} (he:e0∈es.toList) (hke:e0.key=dK.val x):iS m x=some e0.val:=by
 refine lj (r.nodup K.keyed) ?_;obtain ⟨kl,hk,yX⟩:=mV r.fit he;have h1:rg P k eK e0∈m.map lq:=r.perm.mem_iff.1 (by grind);obtain ⟨p,hp,AJ⟩:=bp.1 h1;rw [yX] at AJ;have h2:dK.lit p.1=kl:=congrArg Prod.fst AJ;have h3:(DataW.held p.2:DataW Value)= .held e0.val:=congrArg Prod.snd AJ;rw [hke,K.of x hx] at hk
 grind [dK.inj]
theorem SL.VT (H:SL W g w (mapA P k b m::l)) (K:xJ P k κ) {t e:TypeId} (ht:P.underlying t=some (.map k e)) {z:Value} (hz:(zeroValue e).run P w= .ok z w) (hlen:m.length< maxLen) (x:κ) (hx:dK.ok x):
  ∃ (val:Value) (st:Nat) (w':World),(Instr.mapEntry t (.map (some b)) (dK.val x)).run P w= .ok (.tuple #[val,goInt st]) w'/\SL W g w' (GJ P k b (qY m x val) x st::l)/\(val=z\/∃ p∈m,p.2=val)/\val=(iS m x).getD z:=by
 obtain ⟨es,clock,r,H1⟩:=H.VS;have hb:=H1.has 0;obtain ⟨val,st,OW,tF,h1,h2,⟨e',he,hk,hs⟩,hval⟩:=Ek K.keyed ht hz hb r.fit (K.of x hx);obtain ⟨w',h3,H3⟩:=H.P5 K ht hlen x hx val;rw [h2] at h3;cases h3;refine ⟨val,st,_,h1,?_,?_⟩;rotate_left
 .rcases hval with ⟨h,kA⟩| ⟨e0,he0,hke,h⟩
  .exact ⟨.inl h,by rw [r.get_none K kA,h];rfl⟩
  .refine ⟨?_,by rw [r.get_some K hx he0 hke,h];rfl⟩;obtain ⟨kl,ND,yX⟩:=mV r.fit he0;have yY:rg P k eK e0∈m.map lq:=r.perm.mem_iff.1 (by grind);obtain ⟨p,hp,AJ⟩:=bp.1 yY;rw [yX] at AJ;have q2:(DataW.held p.2:DataW Value)= .held e0.val:=congrArg Prod.snd AJ
   grind
 obtain ⟨h,be,s,ow,g1,g2,ap,rfl,⟨es2,clock2,hb2,r2⟩,s2⟩:=H3;have hb3:=(ow b _ (Hp.fK hb2)).2.1;have hb4:(setBlock w b (.map OW tF)).heap[b]?=some (.map OW tF):=by grind [setBlock]
 rw [hb4] at hb3;cases hb3;exact ⟨_,be,s,ow,g1,g2,ap,rfl,⟨OW,tF,hb2,r2,e',he,hk,hs⟩,s2⟩
theorem SL.entryStore {x:κ} {st:Nat} {val:Value} (H:SL W g w (GJ P k b (qY m x val) x st::l)) (K:xJ P k κ) (hx:dK.ok x) (t:TypeId) (v:Value):
  ∃ w',(Instr.entryStore t (.map (some b)) (goInt st) v).run P w= .ok () w'/\SL W g w' (mapA P k b (qY m x v)::l)/\ac1 w w':=by
 obtain ⟨h,be,s,ow,g1,g2,ap,rfl,⟨es,clock,hb,r,e,he,hke,hse⟩,s2⟩:=H;have hbw:=(ow b _ (Hp.fK hb)).2.1;have uI:=(stamped_iff es clock).1 r.fit.stamped;obtain ⟨j,hj⟩:=List.getElem?_of_mem he;have hjl:j< es.size:=by simpa using (aw.1 hj).1
 have hje:es[j]?=some e:=by simpa using hj
 have hf:es.findIdx? (λe=>(e.born:Int)==(st:Int))=some j:=by
  rw [Array.findIdx?_eq_some_iff_getElem];have e1:es[j]=e:=by rw [eE hjl] at hje;exact aj hje
  refine ⟨hjl,by rw [e1];simp [hse],λi hi=>?_⟩;have r8:i< es.size:=by omega
  intro hc;have hb1:es[i].born=st:=Int.ofNat_inj.1 (eq_of_beq hc);have h1:=uI.2.1;have h2:(es.toList.map (·.born))[i]?=some st:=by simp [r8,hb1]
  have h3:(es.toList.map (·.born))[j]?=some st:=by simp [hjl,e1,hse]
  have:=(List.getElem?_inj (by simpa using r8) h1).1 (h2.trans h3.symm);omega
 let OW:=es.modify j λe=> {e with val:=v};have jt:(Instr.entryStore t (.map (some b)) (goInt st) v).run P w= .ok () (setBlock w b (.map OW clock)):=by
  simp [Instr.entryStore,MapKept.run_getObj_map hbw,goInt,asInt,asIntOf,hf,MapKept.run_setObj_map _ hbw,Result.andThen,setBlock,OW]
 refine ⟨_,jt,?_,VY hbw⟩;have aab:OW.toList=es.toList.set j {e with val:=v}:=by
  apply List.ext_getElem?
  grind
 obtain ⟨kl,hk,yX⟩:=mV r.fit he;have ND:kl=dK.lit x:=by rw [hke,K.of x hx] at hk;exact (aj hk).symm
 have F':Fit P k eK OW clock:=by
  refine ⟨by simpa [OW] using r.fit.size,stamped_modify r.fit.stamped _ _ (λ_ _=>rfl) (λ_ _ _=>rfl),λy hy=>?_⟩;rw [aab] at hy;rcases List.mem_or_eq_of_mem_set hy with hy| rfl;exact r.fit.reads y hy
  .exact ⟨(kl,.held v),by
    exact Go.WideElems.rd_mk (R:=eK) (born:=e.born) hk (show eK v=some (.held v,[]) from rfl)⟩
 have H1:SL W g w (obj b (.map es clock)::l):=⟨_,be,s,ow,g1,g2,ap,rfl,hb,s2⟩;refine (H1.zQ ⟨rfl,xD hbw⟩).ajv ⟨F',?_⟩
 -- the readings:only the one entry's element turns
 have apy:rg P k eK {e with val:=v}=(dK.lit x,.held v):=by
  obtain ⟨kl2,r7,arL⟩:=mV F' (x:= {e with val:=v}) (by rw [aab];exact dZ.2 ⟨j,by simpa using hjl,by simp⟩)
  grind
 have ajM:∀ (L:List MapEntry) (j:Nat),L[j]?=some e->(L.set j {e with val:=v}).Perm ({e with val:=v}::L.eraseIdx j):=by
  intro L
  induction L with
  | nil=>intro j h;simp at h
  | cons y L ih=>
   intro j h;cases j with
   | zero=>simp
   | succ j=>exact (List.Perm.cons y (ih j (by simpa using h))).trans (List.Perm.swap _ _ _)
 have Z2:∀ (L:List MapEntry) (j:Nat),L[j]?=some e->L.Perm (e::L.eraseIdx j):=by
  intro L
  induction L with
  | nil=>intro j h;simp at h
  | cons y L ih=>
   intro j h;cases j with
   | zero=>simp at h;subst h;simp
   | succ j=>exact (List.Perm.cons y (ih j (by simpa using h))).trans (List.Perm.swap _ _ _)
 have p1:=(ajM es.toList j hj).map (rg P k eK);have p2:=(Z2 es.toList j hj).map (rg P k eK);rw [cw,apy] at p1;rw [cw,yX,ND] at p2;have p3:((dK.lit x,DataW.held e.val)::(es.toList.eraseIdx j).map (rg P k eK)).Perm (lq (x,val)::(pf m x).map lq):=p2.symm.trans r.perm
 -- the entry of key x is the one
 have r6:(dK.lit x,(DataW.held e.val:DataW Value))∈lq (x,val)::(pf m x).map lq:=p3.mem_iff.1 (by simp);have hval:lq (x,val)=(dK.lit x,(DataW.held e.val:DataW Value)):=by
  rcases bm.1 r6 with h| h;exact h.symm
  .obtain ⟨q,hq,hqe⟩:=bp.1 h;have h1:dK.lit q.1=dK.lit x:=congrArg Prod.fst hqe;have h2:=dK.inj _ _ h1;have:=(gk.1 hq).2;simp [h2] at this
 rw [hval] at p3;have p4:=List.Perm.cons_inv p3;rw [aab];refine p1.trans ?_;unfold qY;exact List.Perm.cons _ p4
end
end Go.Lm
namespace Go.Lm
open Go Go.RowKit

section
variable {W:cV} {g w:World}
end

structure UTy where
 U:TypeId
 N:TypeId
 kI:TypeId
 kS:TypeId
structure rY where
 pc:Nat
 kind:Int
 mode:Int
 uid:Int
 gid:Int
 vd:Value
 data:List UInt8
 target:ByteArray
 vx:Value
 ao2:List Q5
 opq:Bool
 vi:Value
 asK:List (ByteArray×Int)
 up:Int
 agA:Int
abbrev rY.cells (n:rY):Array Value:= #[.slice none 0 0,.int .i64 0,.int .i64 n.kind,.int .i64 n.mode,.int .i64 n.uid,.int .i64 n.gid,n.vd,.string n.target,n.vx,.bool n.opq,n.vi,.int .i64 n.up,.int .i64 n.agA]
section
variable {κ:Type} [dK κ] {α β:Type}
end
section
variable {P:Program} {T:UTy} {W:cV} {g w w':World} {l:List Atom}
variable {u mb:Nat} {q1 q2 nx:Int} {L:List (Int×rY)}
end
end Go.Lm
namespace Go.Lm
open Go Go.RowKit

section
variable {P:Program} {ops:Array Oper} {rest:List Oper} {o:Oper} {n:Nat} {s:AL} {Q:Exit->Act->World->Prop} {w:World} {e:Bool} {Φ:World->Prop}
theorem Act.ext' {a b:Act} (h1:∀ t:Nat,a.tmps[t]?=b.tmps[t]?) (h2:a.defers=b.defers):a=b:=by
 cases a;congr 1;exact Array.ext_getElem? h1
def slotsOf (ops:Array Oper) (o:Oper):List Nat:=(o.op.operands.toList.filterMap λx=>match x with| .tmp t=>some t| _=>none)++(match o.guard with| some (g,_)=>(match (ops[g]?).bind (·.dst) with| some d=>[d]| none=>[])| none=>[])
end
end Go.Lm
namespace Go.Lm
open Go Go.RowKit
section
variable {P:Program} {ops:Array Oper} {n:Nat} {s:AL} {Q Q'':Exit->Act->World->Prop} {w:World} {c:Code}
end
def nV:Value->Nat->Value
 | .pointer (some a),o=>.pointer (some (a.add o))
 | v,_=>v
def tS (g:World) (k:Nat) (v:Value) (i:Int) (cs:List Value):Prop:=∀ w,bt g w->∃ a:Addr,km k v i= .pointer (some a)/\∀ (j:Nat) (c:Value),cs[j]?=some c->w.cell? (a.add j)=some c
section
variable {P:Program} {g w:World} {v:Value} {i:Int}
theorem afh {α:Type} [aQ α] {xs:List α} (h:Is g v xs) (h0:0<=i) (h1:i< xs.length):∃ cs,tS g (aQ.size α) v i cs/\aQ.rel g cs (xs[i.toNat]'(by omega)):=by
 rcases dE.1 h with ⟨rfl,rfl⟩| ⟨a,cap,rfl,_,_,h3⟩
 .grind
 .obtain ⟨cs,hc,hr⟩:=h3 i.toNat _ (aq (by omega));exact ⟨cs,λw hw=>⟨a.add (i.toNat*aQ.size α),rfl,λj c hj=>by rw [Go.Deep.add_add];exact hw _ _ (hc j c hj)⟩,hr⟩
theorem sw {k off:Nat} {cs:List Value} {t:TypeId} {d:TypeDesc} {c:Value} (h:tS g k v i cs) (m:bt g w) (hu:P.underlying t=some d) (hd:d.isRow=false) (hc:cs[off]?=some c):
  (Instr.loadAt t (nV (km k v i) off)).run P w= .ok c w:=by
 obtain ⟨a,ha,yZ⟩:=h w m;have ae9:(isAgg t).run P w= .ok false w:=by
  unfold isAgg;rw [Sem.run_bind,run_underlying hu w];cases d<;>simp_all
 simp_all [nV,Instr.loadAt,Instr.sureAddr,loadVar]
theorem El {k off len:Nat} {cs:List Value} {t:TypeId} {d:TypeDesc} (h:tS g k v i cs) (m:bt g w) (hu:P.underlying t=some d) (hd:d.isRow=true) (hs:(P.info? t).map (·.size)=some len) (hl:off+len<=cs.length):
  (Instr.loadAt t (nV (km k v i) off)).run P w= .ok (.agg ((cs.drop off).take len).toArray) w:=by
 obtain ⟨a,ha,hc⟩:=h w m;cases hq:P.info? t with
 | none=>grind
 | some ie=>
  have Qo:((cs.drop off).take len).length=len:=by grind
  have ae9:(isAgg t).run P w= .ok true w:=by
   unfold isAgg;rw [Sem.run_bind,run_underlying hu w];cases d<;>simp_all
  have hl:=run_loadCells_list (P:=P) w (a.add off) ((cs.drop off).take len) (λj c hj=>by
   rw [Go.Deep.add_add];refine hc _ c ?_;rw [mT] at hj;split at hj;rw [List.getElem?_drop] at hj;exact hj
   .cases hj)
  simp_all [nV,Instr.loadAt,Instr.sureAddr,loadVar,sizeOf,typeInfo]
def fY (l:List UInt8):ByteArray:=⟨l.toArray⟩
theorem Ce {src dst e:TypeId} {l:List UInt8} (h:Is w v l) (hs:P.underlying src=some (.slice e)) (he:P.underlying e=some (.int .u8)) (hd:P.underlying dst=some .string):(convert src dst v).run P w= .ok (.string (fY l)) w:=by
 rcases dE.1 h with ⟨rfl,rfl⟩| ⟨a,cap,rfl,_,_,h3⟩;exact run_convert_bytes_nil w src e hs he 0 0 dst hd
 .exact run_convert_bytes_back w src dst e a cap l hs he hd λj hj=>by
   obtain ⟨cs,hc,hr⟩:=h3 j _ (aq hj);have hr':cs= [.int .u8 (l[j].toNat:Int)]:=hr;have:=hc 0 (.int .u8 (l[j].toNat:Int)) (by grind);simp_all [aQ.size]
end
end Go.Lm
namespace Go.Lm
open Go Go.RowKit
class zD (ρ:Type) [j6 ρ]:Prop where
 one:∀ {g:World} {cs:List Value} {x:ρ},j6.rrel g cs x->∀ u∈cs,u.oneCell'=true
instance:zD PUnit:=⟨λh u hu=>by rw [show _=_ from h] at hu;cases hu⟩
instance {α ρ:Type} [aQ α] [j6 ρ] [iU α] [zD ρ]:zD (α×ρ):=⟨λh u hu=>by
 obtain ⟨c1,c2,rfl,h1,h2⟩:=h
 grind [iU.one,zD.one]⟩
instance {ρ:Type} [j6 ρ] [zD ρ]:iU (St ρ):=⟨λh u hu=>zD.one h u hu⟩
theorem ajk {α:Type} [aQ α] {g:World} {v:Value} {l:List α} (h:Is g v l):v.oneCell'=true:=by
 rcases dE.1 h with ⟨rfl,_⟩| ⟨a,c,rfl,_⟩<;>rfl
section
variable {P:Program} {W:cV} {g w:World} {l:List Atom}
theorem Zj {α:Type} [aQ α] {e:TypeId} {v:Value} {xs:List α} {i:Int} (H:SL W g w (B6 e v xs::l)) (h0:0<=i) (h1:i< xs.length):∃ cs,tS w (aQ.size α) v i cs/\aQ.rel g cs (xs[i.toNat]'(by omega)):=by
 obtain ⟨cs,r,H1⟩:=H.pD;have tx:=H1.row;rcases tx.2 with ⟨rfl,h⟩| ⟨k,cap,cur,rfl,_⟩;omega
 .obtain ⟨c,hr,hc⟩:=r.get i.toNat _ (aq (by omega));refine ⟨c,λw2 m=>⟨(⟨k,0,none⟩:Addr).add (i.toNat*aQ.size α),rfl,λj u hj=>?_⟩,hr⟩;rw [Go.Deep.add_add];exact m _ _ (tx.cells (g:=k) rfl _ u (hc j u hj))
theorem tB {size:Nat} {c:Value}:∀ (cs:List (List Value)) (i off:Nat),(∀ x∈cs,x.length=size)->off< size->∀ (hi:i< cs.length),(cs.set i ((cs[i]).set off c)).flatten=cs.flatten.set (i*size+off) c
 | [],i,off,_,_,hi=>by simp at hi
 | x::cs,0,off,h,ho,_=>by
  have hx:=h x (by simp);simp only [List.set_cons_zero,List.getElem_cons_zero,dz,Nat.zero_mul,gA];rw [List.set_append_left _ _ (by omega)]
 | x::cs,i+1,off,h,ho,hi=>by
  have hx:=h x (by simp);simp only [List.set_cons_succ,List.getElem_cons_succ,dz];rw [tB cs i off (λy hy=>h y (by simp [hy])) ho (by simpa using hi)];rw [List.set_append_right _ _ (by rw [hx,gR];omega)];congr 2;rw [hx,gR];omega
theorem eF.set {α:Type} [aQ α] {x':α}:∀ {cs:List (List Value)} {xs:List α} (i:Nat) (c':List Value),eF g cs xs->aQ.rel g c' x'->eF g (cs.set i c') (xs.set i x')
 | [],[],i,c',_,_=>by simp [eF]
 | c::cs,x::xs,0,c',h,hr=>⟨hr,h.2⟩
 | c::cs,x::xs,i+1,c',h,hr=>⟨h.1,eF.set i c' h.2 hr⟩
theorem eF.at {α:Type} [aQ α]:∀ {cs:List (List Value)} {xs:List α} (i:Nat) (hi:i< xs.length) (hc:i< cs.length),eF g cs xs->aQ.rel g cs[i] xs[i]
 | c::cs,x::xs,0,_,_,h=>h.1
 | c::cs,x::xs,i+1,hi,hc,h=>eF.at i (by simpa using hi) (by simpa using hc) h.2
theorem eF.lens {α:Type} [aQ α]:∀ {cs:List (List Value)} {xs:List α},eF g cs xs->∀ c∈cs,c.length=aQ.size α
 | [],[],_,c,hc=>by cases hc
 | c::cs,x::xs,h,y,hy=>by
  rcases bm.1 hy with rfl| hy;exact aQ.len h.1;exact eF.lens h.2 y hy
theorem SL.amz {α:Type} [aQ α] {e t:TypeId} {v c:Value} {xs:List α} {i:Int} {off:Nat} {x':α} (H:SL W g w (B6 e v xs::l)) (h0:0<=i) (h1:i< xs.length) (V5:off< aQ.size α) (vX:c.oneCell'=true) (TA:c.cells= #[c]) (uI:(P.info? t).map (·.size)=some 1)
  (hx:∀ cs,aQ.rel g cs (xs[i.toNat]'(by omega))->aQ.rel g (cs.set off c) x'):
  ∃ w',(Instr.storeAt t (nV (km (aQ.size α) v i) off) c).run P w= .ok () w'/\SL W g w' (B6 e v (xs.set i.toNat x')::l):=by
 obtain ⟨cs,r,H1⟩:=H.pD;have hlen:=eF.length r;rcases H1.ofRow with ⟨rfl,hn,_,_⟩| ⟨k,cap,cur,rfl,q1,q2,q3,q4,H2⟩;omega;have hi:i.toNat< xs.length:=by omega
 have hic:i.toNat< cs.length:=by omega
 have aag:i.toNat*aQ.size α+off< xs.length*aQ.size α:=by
  have:(i.toNat+1)*aQ.size α<=xs.length*aQ.size α:=kx _ hi
  grind
 have JL:xs.length*aQ.size α<=cap*aQ.size α:=kx _ q1;have jt:=kB (P:=P) (t:=t) (off:=i.toNat*aQ.size α+off) (v:=c) (H2.pc 0) (by grind) (by grind) (by grind);refine ⟨w.setRow k (cur.toList.take (i.toNat*aQ.size α+off)++c.cells.toList++cur.toList.drop (i.toNat*aQ.size α+off+c.cells.size)).toArray,?_,?_⟩
 .simp_all [nV,km,Addr.add_mid]
 .have e1:(cur.toList.take (i.toNat*aQ.size α+off)++c.cells.toList++cur.toList.drop (i.toNat*aQ.size α+off+c.cells.size))=cur.toList.set (i.toNat*aQ.size α+off) c:=by
   rw [TA];simp [List.set_eq_take_append_cons_drop];omega
  have u:Xk w k (cur.toList.set (i.toNat*aQ.size α+off) c).toArray (w.setRow k (cur.toList.take (i.toNat*aQ.size α+off)++c.cells.toList++cur.toList.drop (i.toNat*aQ.size α+off+c.cells.size)).toArray):=⟨by rw [e1],(H2.pc 0).lt⟩;have H3:=H2.upd 0 u;have H4:=SL.wE (size:=aQ.size α) (cap:=cap) xs.length H3 q1 q2 (by grind);have e2:((cur.toList.set (i.toNat*aQ.size α+off) c).toArray.toList.take (xs.length*aQ.size α))=(cs.set i.toNat ((cs[i.toNat]).set off c)).flatten:=by
   grind [tB,eF.lens,List.take_set]
  refine SL.YG (cs:=cs.set i.toNat ((cs[i.toNat]).set off c)) (r.set i.toNat _ (hx _ (r.at i.toNat hi hic))) ?_
  grind
end
end Go.Lm
namespace Go.Lm
open Go Go.RowKit
section
variable {P:Program} {W:cV} {g w:World} {l:List Atom}
theorem an4 {ρ:Operand->Value} {o:Oper} {x y:Operand} {t u:TypeId} {a b:Int} {k:IntKind} (ho:o.op= .call {callee:=.builtin .min,args:= #[x,y],argTypes:= #[t,u]}) (hx:ρ x= .int k a) (hy:ρ y= .int k b):(execOp ρ o).run P w= .ok (.value (.int k (min a b))) w:=by
 simp [execOp,ho,resolve,invoke,builtin,hx,hy,Builtin.min_,Builtin.min2];omega
theorem an5 {ρ:Operand->Value} {o:Oper} {x y:Operand} {t u:TypeId} {a b:Int} {k:IntKind} (ho:o.op= .call {callee:=.builtin .max,args:= #[x,y],argTypes:= #[t,u]}) (hx:ρ x= .int k a) (hy:ρ y= .int k b):(execOp ρ o).run P w= .ok (.value (.int k (max a b))) w:=by
 simp [execOp,ho,resolve,invoke,builtin,hx,hy,Builtin.max_,Builtin.max2];omega
def bV (xs:List UInt8):List Value:=xs.map λb=>.int .u8 b.toNat
theorem ajb:∀ {cs:List (List Value)} {xs:List UInt8},eF g cs xs->cs.flatten=bV xs
 | [],[],_=>rfl
 | c::cs,x::xs,h=>by
  have h1:c= [.int .u8 x.toNat]:=h.1;rw [dz,ajb h.2,h1];rfl
theorem SG:∀ xs:List UInt8,eF g (xs.map λb=>[Value.int .u8 b.toNat]) xs
 | []=>trivial
 | _::xs=>⟨rfl,SG xs⟩
theorem afb (xs:List UInt8):(xs.map λb=>[Value.int .u8 b.toNat]).flatten=bV xs:=by
 induction xs with
 | nil=>rfl
 | cons x xs ih=>rw [cw,dz,ih];rfl
theorem SL.slB {e:TypeId} {v:Value} {xs:List UInt8} (H:SL W g w (uG e 1 v xs.length (bV xs)::l)):SL W g w (B6 e v xs::l):=by
 refine SL.YG (cs:=xs.map λb=>[Value.int .u8 b.toNat]) (SG xs) ?_;rw [afb];exact H
theorem SL.ai5 {e:TypeId} {v:Value} {xs:List UInt8} (H:SL W g w (B6 e v xs::l)):SL W g w (uG e 1 v xs.length (bV xs)::l):=by
 obtain ⟨cs,r,H1⟩:=H.pD;rw [ajb r] at H1;exact H1
def mP (xs:List UInt8) (off:Nat) (ys:List UInt8):List UInt8:=xs.take off++ys.take (xs.length - off)++xs.drop (off+min ys.length (xs.length - off))
theorem JV (xs:List UInt8) (off:Nat) (ys:List UInt8) (h:off<=xs.length):(mP xs off ys).length=xs.length:=by
 grind [mP]
theorem Pa (v:Value) (n:Nat) (k cap:Nat) (h:v= .slice (some ⟨k,0,none⟩) n cap):jB 1 v 0 n=v:=by
 grind [jB,Addr.add]
theorem SL.anI {e dT sT ty:TypeId} {k cap:Nat} {xs ys:List UInt8} {y:Value} {off:Int} (H:SL W g w (B6 e (.slice (some ⟨k,0,none⟩) xs.length cap) xs::l)) (hy:Rd g w y ys) (h0:0<=off) (h1:off<=xs.length) (ht:P.underlying dT=some (.slice e)) (hs:(P.info? e).map (·.size)=some 1):
  ∃ w',(Builtin.copy_ #[dT,sT] ty #[jB 1 (.slice (some ⟨k,0,none⟩) xs.length cap) off xs.length,y]).run P w= .ok (.int .i64 (min ys.length (xs.length - off.toNat):Nat)) w'/\SL W g w' (B6 e (.slice (some ⟨k,0,none⟩) xs.length cap) (mP xs off.toNat ys)::l):=by
 have H1:=H.ai5;rcases H1.ofRow with ⟨h,_⟩| ⟨k',afr,cur,hv,q1,q2,q3,q4,H2⟩;cases h;cases hv;rw [Nat.mul_one] at q4 q3;have hlc:cur.toList.length=cap:=by simpa using q3
 have aqc:∃ o,jB 1 (.slice (some ⟨k,0,none⟩) xs.length cap) off xs.length= .slice (some ⟨k,o,none⟩) (xs.length - off.toNat) (cap - off.toNat)/\(o=off.toNat\/(o=0/\xs.length - off.toNat=0)):=by
  unfold jB;simp only [Option.map_some,bL,Nat.mul_one];by_cases hc:cap=off.toNat
  .exact ⟨0,by rw [if_pos hc],.inr ⟨rfl,by omega⟩⟩
  simp_all [Addr.add_mid]
 obtain ⟨o,hd,ho⟩:=aqc;rw [hd];rcases hy with ⟨rfl,rfl⟩| ⟨a,c,rfl,_,_,ds,Wa,qm⟩
 .have hr:=run_copy_nil (P:=P) w dT sT ty e ⟨k,o,none⟩ (xs.length - off.toNat) (cap - off.toNat) ht (by cases hq:P.info? e<;>simp_all);simp_all [goInt,mP]
 .have hfl:=ajb Wa;obtain ⟨m,hm⟩:∃ m,m=min ys.length (xs.length - off.toNat):=⟨_,rfl⟩;have hmN:Nat.min ys.length (xs.length - off.toNat)=m:=hm.symm;have hy1:((bV ys).take (xs.length - off.toNat)).length=m:=by
   simp [bV];omega
  have hr:=run_copy_row (P:=P) w dT sT ty e k o (xs.length - off.toNat) (cap - off.toNat) a ys.length c cur e ((bV ys).take (xs.length - off.toNat)) ht hs (H2.pc 0) (by rw [hmN];exact hy1)
   (by grind)
   (by omega)
   (λu hu=>by
    have hu':=List.mem_of_mem_take hu;obtain ⟨b,_,rfl⟩:=bp.1 hu';rfl)
  rw [hy1] at hr;rw [<-hm];refine ⟨_,hr,?_⟩;have hu:Xk w k (cur.toList.take o++(bV ys).take (xs.length - off.toNat)++cur.toList.drop (o+m)).toArray (w.setRow k (cur.toList.take o++(bV ys).take (xs.length - off.toNat)++cur.toList.drop (o+m)).toArray):=⟨rfl,(H2.pc 0).lt⟩;have H3:=H2.upd 0 hu;have hlen:(mP xs off.toNat ys).length=xs.length:=JV _ _ _ (by omega);have H4:=SL.wE (size:=1) (cap:=cap) xs.length H3 q1 q2 (by
   grind)
  have e1:(cur.toList.take o++(bV ys).take (xs.length - off.toNat)++cur.toList.drop (o+m)).toArray.toList.take (xs.length*1)=bV (mP xs off.toNat ys):=by
   unfold mP;rw [<-hm];generalize hT:(bV ys).take (xs.length - off.toNat)=T at hy1;have hR:bV (xs.take off.toNat++ys.take (xs.length - off.toNat)++xs.drop (off.toNat+m))=(cur.toList.take xs.length).take off.toNat++T++(cur.toList.take xs.length).drop (off.toNat+m):=by
    rw [q4,<-hT];simp only [bV,jb,List.map_take,List.map_drop]
   rw [hR];have ho':cur.toList.take o++T++cur.toList.drop (o+m)=cur.toList.take off.toNat++T++cur.toList.drop (off.toNat+m):=by
    rcases ho with h| ⟨h,h2⟩;rw [h];simp_all
   rw [ho'];rw [List.take_append,List.take_append,o8,af,aF,hy1,hlc]
   grind [lQ]
  rw [e1] at H4;refine SL.slB ?_;rw [hlen];exact H4
end

inductive Ty
 | int (k:IntKind)| u8| str| bool| unit| We
 | pair (a b:Ty)
 | sl (e:Ty)
def IntKind.beq:IntKind->IntKind->Bool
 | .i8,.i8| .i16,.i16| .i32,.i32| .i64,.i64| .u8,.u8| .u16,.u16| .u32,.u32| .u64,.u64=>true
 | _,_=>false
theorem IntKind.eq_of_beq:∀ {a b:IntKind},IntKind.beq a b=true->a=b:=by
 intro a b;cases a<;>cases b<;>intro h<;>first| rfl| cases h
def Ty.beq:Ty->Ty->Bool
 | .int k,.int k'=>IntKind.beq k k'
 | .u8,.u8| .str,.str| .bool,.bool| .unit,.unit| .We,.We=>true
 | .pair a b,.pair c d=>a.beq c&& b.beq d
 | .sl a,.sl b=>a.beq b
 | _,_=>false
theorem Ty.eq_of_beq:∀ {a b:Ty},a.beq b=true->a=b
 | .int k,b,h=>by
  cases b<;>first| cases h| (rw [IntKind.eq_of_beq (a:=k) h])
 | .u8,b,h=>by cases b<;>first| rfl| cases h
 | .str,b,h=>by cases b<;>first| rfl| cases h
 | .bool,b,h=>by cases b<;>first| rfl| cases h
 | .unit,b,h=>by cases b<;>first| rfl| cases h
 | .We,b,h=>by cases b<;>first| rfl| cases h
 | .pair a b,t,h=>by
  cases t<;>try cases h
  rename_i c d;have h':(a.beq c&& b.beq d)=true:=h;rw [ao] at h';rw [Ty.eq_of_beq h'.1,Ty.eq_of_beq h'.2]
 | .sl a,b,h=>by
  cases b<;>try cases h
  rename_i c;rw [Ty.eq_of_beq (a:=a) (b:=c) h]
@[reducible] def Ty.den:Ty->Type
 | .int _=>Int
 | .u8=>UInt8
 | .str=>ByteArray
 | .bool=>Bool
 | .unit=>Unit
 | .We=>Nat
 | .pair a b=>a.den×b.den
 | .sl e=>List e.den
def Ty.NZ:(τ:Ty)->τ.den
 | .int _=>(0:Int)
 | .u8=>(0:UInt8)
 | .str=>(⟨#[]⟩:ByteArray)
 | .bool=>false
 | .unit=>()
 | .We=>(0:Nat)
 | .pair a b=>(a.NZ,b.NZ)
 | .sl _=>[]
def Ty.size:Ty->Nat
 | .unit=>0
 | .pair a b=>a.size+b.size
 | _=>1
def Ty.row:Ty->Bool
 | .unit| .pair .. =>true
 | _=>false
@[reducible] def A4 (α:Type) (r:aQ α):aQ (List α):=inferInstance
@[reducible] def Ty.rep:(τ:Ty)->aQ τ.den
 | .int k=> {size:=1,agg:=false,rel:=λ_ cs n=>cs= [.int k n]/\(Lit.int k n).wf=true,mono:=λ_ h=>h,len:=λh=>by rw [h.1];rfl}
 | .u8=>(inferInstance:aQ UInt8)
 | .str=>(inferInstance:aQ ByteArray)
 | .bool=>(inferInstance:aQ Bool)
 | .We=> {size:=1,agg:=false,rel:=λ_ cs n=>cs= [.func (.func n) #[] #[]],mono:=λ_ h=>h,len:=λh=>by rw [h];rfl}
 | .unit=> {size:=0,agg:=true,rel:=λ_ cs _=>cs= [],mono:=λ_ h=>h,len:=λh=>by rw [h];rfl}
 | .pair a b=>
  {size:=a.rep.size+b.rep.size,agg:=true
   rel:=λw cs x=>∃ c1 c2,cs=c1++c2/\a.rep.rel w c1 x.1/\b.rep.rel w c2 x.2
   mono:=λhl h=>by
    obtain ⟨c1,c2,e,h1,h2⟩:=h;exact ⟨c1,c2,e,a.rep.mono hl h1,b.rep.mono hl h2⟩
   len:=λh=>by
    obtain ⟨c1,c2,e,h1,h2⟩:=h;rw [e,af,a.rep.len h1,b.rep.len h2]}
 | .sl e=>A4 e.den e.rep
theorem Ty.gw:∀ τ:Ty,τ.rep.size=τ.size
 | .int _| .u8| .str| .bool| .unit| .We| .sl _=>rfl
 | .pair a b=>by
  show a.rep.size+b.rep.size=a.size+b.size;rw [a.gw,b.gw]
def od (e:Ty) (g:World) (v:Value) (x:List e.den):Prop:= @Is (List e.den) (A4 e.den e.rep) g v x
theorem od.mono {e:Ty} {g g':World} {v:Value} {x:List e.den} (m:bt g g') (h:od e g v x):od e g' v x:= @Is.mono _ (A4 e.den e.rep) _ _ _ _ m h
def aA (e:Ty) (x:List e.den) (i:Int):e.den:=x.getD i.toNat e.NZ
theorem As {e:Ty} {g:World} {v:Value} {x:List e.den} {i:Int} (h:od e g v x) (h0:0<=i) (h1:i< x.length):∃ cs,tS g e.size v i cs/\e.rep.rel g cs (aA e x i):=by
 letI:=e.rep;obtain ⟨cs,h2,h3⟩:=afh (α:=e.den) (xs:=x) (g:=g) (v:=v) (i:=i) h h0 h1
 grind [Ty.gw, aA]
inductive Cl
 | k (v:Value)
 | d (e:Ty) (x:List e.den)
 | de (e:Ty) (x:List e.den) (i:Int) (off:Nat)
 | p (l:Nat) (off:Nat)
 | o (l:Nat)
 | os (l:Nat) (sz:Nat) (lo hi:Int)
 | oe (l:Nat) (sz:Nat) (i:Int) (off:Nat)
 | m (l:Nat)
 | sc (l off n:Nat)
 | fn (f:FuncId) (caps:List Cl)
 | Ee (t:TypeId) (c:Cl)
 | kl (l:Nat) (v:Value)
 | Km
def aB:IntKind->Int->Prop
 | .i8,n=> -128<=n/\n<=127
 | .i16,n=> -32768<=n/\n<=32767
 | .i32,n=> -2147483648<=n/\n<=2147483647
 | .i64,n=> -9223372036854775808<=n/\n<=9223372036854775807
 | .u8,n=>0<=n/\n<=255
 | .u16,n=>0<=n/\n<=65535
 | .u32,n=>0<=n/\n<=4294967295
 | .u64,n=>0<=n/\n<=18446744073709551615
theorem oO {k:IntKind} {n:Int}:aB k n↔(Lit.int k n).wf=true:=by
 cases k<;>simp [aB,Lit.wf,IntKind.min,mU,ij,kH]
def okV:Value->Prop
 | .int k n=>aB k n
 | .string s=>s.size<=maxLen
 | v=>v.oneCell'=true
abbrev Env:=List Value
mutual
def ck (E:Env) (g:World):Cl->Value->Prop
 | .k v,u=>u=v/\okV v
 | .d e x,u=>od e g u x
 | .de e x i off,u=>(0<=i/\i< x.length/\off<=e.size)/\∃ v,od e g v x/\u=nV (km e.size v i) off
 | .p l off,u=>∃ b,E[l]?=some (ptr b 0)/\u=ptr b off
 | .o l,u=>E[l]?=some u/\∃ a n c,u= .slice a n c
 | .os l sz lo hi,u=>∃ v,E[l]?=some v/\u=jB sz v lo hi/\∃ a n c,u= .slice a n c
 | .oe l sz i off,u=>∃ v,E[l]?=some v/\u=nV (km sz v i) off/\∃ a,u= .pointer (some a)
 | .m l,u=>∃ b,E[l]?=some (ptr b 0)/\u= .map (some b)
 | .sc l off n,u=>∃ b c,E[l]?=some (ptr b 0)/\(n<=c/\c<=maxLen)/\u= .slice (some ⟨b,off,none⟩) n c
 | .fn f caps,u=>∃ us,bz E g caps us/\u= .func (.func f) #[] us.toArray
 | .Ee t c,u=>∃ v,ck E g c v/\u= .iface t v
 | .kl l v,u=>(∃ x,E[l]?=some x)/\u=v/\v.oneCell'=true
 | .Km,u=>u.oneCell'=true
def bz (E:Env) (g:World):List Cl->List Value->Prop
 | [],us=>us= []
 | c::l,us=>∃ u r,us=u::r/\ck E g c u/\bz E g l r
end
section
variable {E E':Env} {g g':World}
def bu (E E':Env):Prop:=∀ (l:Nat) (v:Value),E[l]?=some v->E'[l]?=some v
theorem bu.refl (E:Env):bu E E:=λ_ _ h=>h
theorem bu.trans {A B C:Env} (h:bu A B) (k:bu B C):bu A C:=λl v e=>k l v (h l v e)
theorem bu.app (E L:Env):bu E (E++L):=λl v h=>by
 have hl:=(aw.1 h).1;rw [bF hl];exact h
mutual
theorem ck.mono (he:bu E E') (m:bt g g'):∀ {c:Cl} {u:Value},ck E g c u->ck E' g' c u
 | .k _,_,h=>h
 | .d _ _,_,h=>od.mono m h
 | .de _ _ _ _,_,⟨h,v,h1,h2⟩=>⟨h,v,h1.mono m,h2⟩
 | .p _ _,_,⟨b,h1,h2⟩=>⟨b,he _ _ h1,h2⟩
 | .o _,_,⟨h,h2⟩=>⟨he _ _ h,h2⟩
 | .os _ _ _ _,_,⟨v,h1,h2⟩=>⟨v,he _ _ h1,h2⟩
 | .oe _ _ _ _,_,⟨v,h1,h2⟩=>⟨v,he _ _ h1,h2⟩
 | .m _,_,⟨b,h1,h2⟩=>⟨b,he _ _ h1,h2⟩
 | .sc _ _ _,_,⟨b,c,h1,h2⟩=>⟨b,c,he _ _ h1,h2⟩
 | .fn _ _,_,⟨us,h1,h2⟩=>⟨us,h1.mono he m,h2⟩
 | .Ee _ _,_,⟨v,h1,h2⟩=>⟨v,h1.mono he m,h2⟩
 | .kl _ _,_,⟨⟨x,h1⟩,h2⟩=>⟨⟨x,he _ _ h1⟩,h2⟩
 | .Km,_,h=>h
theorem bz.mono (he:bu E E') (m:bt g g'):∀ {l:List Cl} {us:List Value},bz E g l us->bz E' g' l us
 | [],_,h=>h
 | _::_,_,⟨u,r,e,h1,h2⟩=>⟨u,r,e,h1.mono he m,h2.mono he m⟩
end
theorem bz.nil:bz E g [] []:=rfl
theorem bz.cons {c:Cl} {u:Value} {l:List Cl} {us:List Value} (h:ck E g c u) (k:bz E g l us):bz E g (c::l) (u::us):=⟨u,us,rfl,h,k⟩
theorem bz.length:∀ {l:List Cl} {us:List Value},bz E g l us->us.length=l.length
 | [],_,h=>by rw [show _=_ from h];rfl
 | _::_,_,⟨_,_,e,_,h⟩=>by rw [e,av,av,h.length]
theorem bz.app:∀ {l k:List Cl} {us vs:List Value},bz E g l us->bz E g k vs->bz E g (l++k) (us++vs)
 | [],_,_,_,h,hk=>by rw [show _=_ from h];exact hk
 | _::_,_,_,_,⟨u,r,e,h1,h2⟩,hk=>by rw [e];exact ⟨u,r++_,rfl,h1,h2.app hk⟩
theorem bz.split:∀ {l k:List Cl} {us:List Value},bz E g (l++k) us->∃ u1 u2,us=u1++u2/\bz E g l u1/\bz E g k u2
 | [],_,us,h=>⟨[],us,rfl,rfl,h⟩
 | _::l,_,_,⟨u,r,e,h1,h2⟩=>by
  obtain ⟨u1,u2,e2,h3,h4⟩:=bz.split (l:=l) h2;exact ⟨u::u1,u2,by rw [e,e2];rfl,⟨u,u1,rfl,h1,h3⟩,h4⟩
theorem bz.get:∀ {l:List Cl} {us:List Value} {i:Nat} {c:Cl},bz E g l us->l[i]?=some c->∃ u,us[i]?=some u/\ck E g c u
 | [],_,_,_,_,h=>by simp at h
 | x::l,_,0,c,⟨u,r,e,h1,_⟩,h=>by
  have:x=c:=by simpa using h
  subst this;exact ⟨u,by rw [e];rfl,h1⟩
 | x::l,_,i+1,c,⟨u,r,e,_,h2⟩,h=>by
  obtain ⟨v,h3,h4⟩:=bz.get (i:=i) h2 (by simpa using h);exact ⟨v,by rw [e];simpa using h3,h4⟩
theorem bz.drop:∀ {l:List Cl} {us:List Value} (n:Nat),bz E g l us->bz E g (l.drop n) (us.drop n)
 | _,_,0,h=>h
 | [],us,n+1,h=>by rw [show us= [] from h];rfl
 | _::l,_,n+1,⟨u,r,e,_,h2⟩=>by rw [e];exact h2.drop n
theorem bz.take:∀ {l:List Cl} {us:List Value} (n:Nat),bz E g l us->bz E g (l.take n) (us.take n)
 | _,_,0,h=>rfl
 | [],us,n+1,h=>by rw [show us= [] from h];rfl
 | _::l,_,n+1,⟨u,r,e,h1,h2⟩=>by rw [e];exact ⟨u,r.take n,rfl,h1,h2.take n⟩
theorem bz.set:∀ {l:List Cl} {us:List Value} (i:Nat) {c:Cl} {u:Value},bz E g l us->ck E g c u->bz E g (l.set i c) (us.set i u)
 | [],us,_,_,_,h,_=>by rw [show us= [] from h];rfl
 | _::l,_,0,c,u,⟨x,r,e,_,h2⟩,hc=>by rw [e];exact ⟨u,r,rfl,hc,h2⟩
 | _::l,_,i+1,c,u,⟨x,r,e,h1,h2⟩,hc=>by rw [e];exact ⟨x,r.set i u,rfl,h1,h2.set i hc⟩
end

def Ty.cells:(τ:Ty)->τ.den->List Cl
 | .int k,n=>[.k (.int k n)]
 | .u8,b=>[.k (.int .u8 (b.toNat:Int))]
 | .str,s=>[.k (.string s)]
 | .bool,b=>[.k (.bool b)]
 | .unit,_=>[]
 | .We,f=>[.fn f []]
 | .pair a b,x=>a.cells x.1++b.cells x.2
 | .sl e,x=>[.d e x]
def Ty.ok:(τ:Ty)->τ.den->Prop
 | .int k,n=>aB k n
 | .str,s=>s.size<=9223372036854775807
 | .pair a b,x=>a.ok x.1/\b.ok x.2
 | .sl _,x=>x.length<=9223372036854775807
 | _,_=>True
theorem lJ {e:Ty} {g:World} {v:Value} {x:List e.den} (h:od e g v x):x.length<=9223372036854775807:=by
 have:= @Is.ZH e.den e.rep g v x h;omega
theorem ft (E:Env) (g:World):∀ (τ:Ty) {x:τ.den} {us:List Value},τ.rep.rel g us x->bz E g (τ.cells x) us/\τ.ok x
 | .int k,x,us,h=>⟨⟨_,[],h.1,⟨rfl,oO.2 h.2⟩,rfl⟩,oO.2 h.2⟩
 | .u8,x,us,h=>⟨⟨_,[],h,⟨rfl,by
   have h1:x.toNat< 256:=UInt8.toNat_lt x;show (0:Int)<=(x.toNat:Int)/\(x.toNat:Int)<=255;omega⟩,rfl⟩,trivial⟩
 | .str,x,us,h=>⟨⟨_,[],h.1,⟨rfl,h.2⟩,rfl⟩,h.2⟩
 | .bool,x,us,h=>⟨⟨_,[],h,⟨rfl,rfl⟩,rfl⟩,trivial⟩
 | .unit,x,us,h=>⟨h,trivial⟩
 | .We,x,us,h=>⟨⟨_,[],h,⟨[],rfl,rfl⟩,rfl⟩,trivial⟩
 | .pair a b,x,us,⟨c1,c2,e,h1,h2⟩=>by
  obtain ⟨p1,p2⟩:=ft E g a h1;obtain ⟨q1,q2⟩:=ft E g b h2;rw [e];exact ⟨p1.app q1,p2,q2⟩
 | .sl e,x,us,⟨v,h1,h2⟩=>by
  have hv:od e g v x:=(@dE e.den e.rep g v x).2 h2;exact ⟨⟨v,[],h1,hv,rfl⟩,lJ hv⟩
def ofInt (k:IntKind):List Cl->Option (Int×List Cl)
 | .k (.int k' n)::r=>if k'=k then some (n,r) else none
 | _=>none
def ajm:List Cl->Option (UInt8×List Cl)
 | .k (.int .u8 n)::r=>some (az n.toNat,r)
 | _=>none
def ofStr:List Cl->Option (ByteArray×List Cl)
 | .k (.string s)::r=>some (s,r)
 | _=>none
def ofBool:List Cl->Option (Bool×List Cl)
 | .k (.bool b)::r=>some (b,r)
 | _=>none
def ag5 {e e':Ty} (h:e'=e) (x:List e'.den):List e.den:=h▸x
def zw {e':Ty} (e:Ty) (x:List e'.den):Option (List e.den):=if h:e'.beq e=true then some (ag5 (Ty.eq_of_beq h) x) else none
theorem eB {e e':Ty} {x:List e'.den} {y:List e.den} (h:zw e x=some y):∃ q:e'=e,y=ag5 q x:=by
 grind [zw]
def ajn (e:Ty):List Cl->Option (List e.den×List Cl)
 | .k (.slice none 0 0)::r=>some ([],r)
 | .d _ x::r=>match zw e x with
  | some y=>some (y,r)
  | none=>none
 | _=>none
def ofFn:List Cl->Option (Nat×List Cl)
 | .fn f []::r=>some (f,r)
 | _=>none
def Ty.of:(τ:Ty)->List Cl->Option (τ.den×List Cl)
 | .int k,l=>ofInt k l
 | .u8,l=>ajm l
 | .str,l=>ofStr l
 | .bool,l=>ofBool l
 | .unit,l=>some ((),l)
 | .We,l=>ofFn l
 | .pair a b,l=>match a.of l with
  | some (x,r)=>match b.of r with
   | some (y,r')=>some ((x,y),r')
   | none=>none
  | none=>none
 | .sl e,l=>ajn e l
theorem of_cells {E:Env} {g:World}:∀ (τ:Ty) {l r:List Cl} {x:τ.den} {us:List Value},τ.of l=some (x,r)->bz E g l us->∃ u1 u2,us=u1++u2/\τ.rep.rel g u1 x/\bz E g r u2
 | .int k,l,r,x,us,h,hr=>by
  change ofInt k l=_ at h;unfold ofInt at h;split at h
  .split at h
   .rename_i hk;subst hk;cases h;obtain ⟨u,r1,e,⟨h1,h2⟩,h3⟩:=hr;subst h1;exact ⟨[_],r1,e,⟨rfl,oO.1 h2⟩,h3⟩
   grind
  grind
 | .u8,l,r,x,us,h,hr=>by
  change ajm l=_ at h;unfold ajm at h;split at h
  .cases h;obtain ⟨u,r1,e,⟨h1,h2⟩,h3⟩:=hr;subst h1;refine ⟨[_],r1,e,?_,h3⟩;rename_i n;have h2':0<=n/\n<=255:=h2;show [Value.int .u8 n]= [Value.int .u8 ((az n.toNat).toNat:Int)];simp; omega
  grind
 | .str,l,r,x,us,h,hr=>by
  change ofStr l=_ at h;unfold ofStr at h;split at h
  .cases h;obtain ⟨u,r1,e,⟨h1,h2⟩,h3⟩:=hr;subst h1;exact ⟨[_],r1,e,⟨rfl,h2⟩,h3⟩
  grind
 | .bool,l,r,x,us,h,hr=>by
  change ofBool l=_ at h;unfold ofBool at h;split at h
  .cases h;obtain ⟨u,r1,e,⟨h1,h2⟩,h3⟩:=hr;subst h1;exact ⟨[_],r1,e,rfl,h3⟩
  grind
 | .We,l,r,x,us,h,hr=>by
  change ofFn l=_ at h;unfold ofFn at h;split at h
  .obtain ⟨u,r1,e,⟨ve,h1,h2⟩,h3⟩:=hr;obtain rfl:ve= []:=h1
   grind
  grind
 | .unit,l,r,x,us,h,hr=>by
  cases h
  grind
 | .pair a b,l,r,x,us,h,hr=>by
  unfold Ty.of at h;cases ha:a.of l with
  | none=>grind
  | some p=>
   obtain ⟨x1,r1⟩:=p;cases hb:b.of r1 with
   | none=>grind
   | some q=>
    simp [ha,hb] at h;obtain ⟨u1,u2,e1,h1,h2⟩:=of_cells a ha hr;obtain ⟨u3,u4,e2,h3,h4⟩:=of_cells b hb h2
    grind
 | .sl e,l,r,x,us,h,hr=>by
  change ajn e l=_ at h;unfold ajn at h;split at h
  .cases h;obtain ⟨u,r1,eq,⟨h1,h2⟩,h3⟩:=hr;subst h1;exact ⟨[_],r1,eq,⟨_,rfl,.inl ⟨rfl,rfl⟩⟩,h3⟩
  .split at h
   .rename_i he;obtain ⟨q,hy⟩:=eB he;subst q;cases h;subst hy;obtain ⟨u,r1,eq,h1,h3⟩:=hr;exact ⟨[u],r1,eq,by assumption,h3⟩
   grind
  grind
open Go Go.RowKit Go.WideMaps
abbrev K3:=UInt8×UInt8×UInt8
def K3.v (k:K3):Value:=.agg #[.int .u8 (k.1.toNat:Int),.int .u8 (k.2.1.toNat:Int),.int .u8 (k.2.2.toNat:Int)]
instance:dK K3 where
 dec:=inferInstance
 lit k:=.string [k.1,k.2.1,k.2.2]
 val:=K3.v
 ok _:=True
 same a b:=by
  simp only [Lit.sameKey]
  grind
 inj a b h:=by
  obtain ⟨a1,a2,a3⟩:=a;simp at h;obtain ⟨h1,h2,h3⟩:=h;rw [h1,h2,h3]
def xh (P:Program) (k:TypeId):Bool:=match P.underlying k with
 | some (.array n e)=>Nat.beq n 3&& (match P.underlying e with
  | some (.int .u8)=>Nat.beq (P.cellsOf e) 1&& (Nat.beq (P.cellsOf k) 3&& gH 0 P.types.size)
  | _=>false)
 | _=>false
theorem DR:∀ {a b:List UInt8},a≠b->bytesBefore a b=true\/bytesBefore b a=true
 | [],[],h=>absurd rfl h
 | [],_::_,_=>.inl rfl
 | _::_,[],_=>.inr rfl
 | x::a,y::b,h=>by
  unfold bytesBefore;by_cases e:x=y
  .subst e;have h2:a≠b:=λq=>h (by rw [q]);rcases DR h2 with h3| h3
   .simp [h3]
   .simp [h3]
  .have:x< y\/y< x:=by
    rcases Nat.lt_trichotomy x.toNat y.toNat with h3| h3| h3;exact .inl (UInt8.lt_iff_toNat_lt.2 h3);exact absurd (UInt8.toNat_inj.1 h3) e;exact .inr (UInt8.lt_iff_toNat_lt.2 h3)
   rcases this with h3| h3;simp [h3];simp [h3]
theorem Qa {P:Program} {e:TypeId} (he:P.underlying e=some (.int .u8)) (d:Nat) (b:UInt8):P.keyLits (d+1) e [.int .u8 (b.toNat:Int)]=some [.int .u8 (b.toNat:Int)]:=by
 have hb:b.toNat< 256:=UInt8.toNat_lt b;unfold Program.keyLits
 grind [Lit.wf, IntKind.min, mU, ij, kH]
theorem akO (b:UInt8):Lit.keyBytes (.int .u8 (b.toNat:Int))= [b]:=by
 have hb:b.toNat< 256:=UInt8.toNat_lt b;have:((b.toNat:Int) % 2 ^ 8).toNat=b.toNat:=by omega
 show bytesBE 1 (((b.toNat:Int) % 2 ^ 8).toNat)=_;simp_all [bytesBE, bytesLE]
theorem JA {P:Program} {k:TypeId} (h:xh P k=true):∃ e,ArrKey P k e 3/\P.underlying e=some (.int .u8)/\∃ m,P.types.size=m+1:=by
 unfold xh at h;split at h
 .rename_i n e hu;simp only [ao] at h;obtain ⟨h1,h⟩:=h;obtain rfl:=ai h1;split at h
  .rename_i he;simp only [ao] at h;obtain ⟨h2,h3,h4⟩:=h;refine ⟨e,⟨hu,?_,ai h2,ai h3⟩,he,P.types.size - 1,?_⟩
   .grind [Program.plainKey]
   simp_all; omega
  grind
 grind
theorem Ns {P:Program} {k:TypeId} (h:xh P k=true) (x:K3):keyOf P k (dK.val x)=some (dK.lit x):=by
 obtain ⟨e,A,he,m,hm⟩:=JA h;unfold keyOf;rw [A.hu];have hk:P.keyType k=true:=A.keyType ⟨m,hm⟩;have hf:Value.formed P k (dK.val x)=true:=by
  show Value.formed P k (K3.v x)=true;unfold K3.v Value.formed;rw [A.hu];simp [A.size]
 rw [hk,hf];have hl:P.keyLits (P.types.size+1) k (dK.val x).cells.toList=some [.int .u8 (x.1.toNat:Int),.int .u8 (x.2.1.toNat:Int),.int .u8 (x.2.2.toNat:Int)]:=by
  show P.keyLits (P.types.size+1) k [.int .u8 (x.1.toNat:Int),.int .u8 (x.2.1.toNat:Int),.int .u8 (x.2.2.toNat:Int)]=_;rw [hm]
  conv=>lhs;unfold Program.keyLits
  rw [A.hu];simp only [A.size,A.one,av,aY];have r3:bQ 3= [0,1,2]:=rfl;simp [r3,Qa he]
 rw [hl];show some (Lit.string (keyBytes _))=some (Lit.string _)
 grind [keyBytes, akO]
theorem Jy {P:Program} {k:TypeId} (h:xh P k=true):xJ P k K3:=by
 obtain ⟨e,A,he,m,hm⟩:=JA h;have L:=A.law;exact {
  keyed:= {
   key:=λhv=>by obtain ⟨s,rfl⟩:=L.str hv;trivial
   total:=λh1 h2 ja=>by
    obtain ⟨s1,rfl⟩:=L.str h1;obtain ⟨s2,rfl⟩:=L.str h2;exact DR λq=>ja (by rw [q])
   inj:=L.inj
   check:=L.check
   find:=L.find
   stays:=L.stays}
  of:=λx _=>Ns h x
  inv:=λv x hv=>⟨L.inj hv (Ns h x),trivial⟩}
theorem w9 {κ:Type} [dK κ] {P P':Program} {t:TypeId} (hk:∀ v,keyOf P t v=keyOf P' t v) {bb:Nat} {m:List (κ×Value)} {g:World} {hh:Hp}:(mapA P t bb m).sat g hh->(mapA P' t bb m).sat g hh:=by
 rintro ⟨es,clock,h1,⟨⟨f1,f2,f3⟩,h3⟩⟩;have V4:∀ x,WideElems.rd P t eK x=WideElems.rd P' t eK x:=by grind [WideElems.rd]
 refine ⟨es,clock,h1,⟨⟨f1,f2,by grind⟩,?_⟩⟩;have yX:WideElems.rg P' t eK=WideElems.rg P t eK:=funext (by grind [WideElems.rg])
 grind
theorem keyLits_int {P:Program} {e:TypeId} {q:IntKind} (he:P.underlying e=some (.int q)) (d:Nat) (c:List Value):P.keyLits (d+1) e c=(match c with
  | [.int q' n]=>if q'=q/\(Lit.int q n).wf=true then some [.int q n] else none
  | _=>none):=by
 unfold Program.keyLits
 grind
theorem Ai {P P':Program} {k:TypeId} (h:xh P k=true) (h':xh P' k=true) (v:Value):keyOf P k v=keyOf P' k v:=by
 obtain ⟨e,A,he,m,hm⟩:=JA h;obtain ⟨e',A',he',m',hm'⟩:=JA h';unfold keyOf;rw [A.hu,A'.hu];have hk:P.keyType k=true:=A.keyType ⟨m,hm⟩;have AK:P'.keyType k=true:=A'.keyType ⟨m',hm'⟩;have hf:Value.formed P k v=Value.formed P' k v:=by
  unfold Value.formed;rw [A.hu,A'.hu,A.size,A'.size]
 have hl:P.keyLits (P.types.size+1) k v.cells.toList=P'.keyLits (P'.types.size+1) k v.cells.toList:=by
  conv=>lhs;unfold Program.keyLits
  conv=>rhs;unfold Program.keyLits
  rw [A.hu,A'.hu];simp only [A.size,A.one,A'.size,A'.one]
  grind [keyLits_int]
 grind
end Go.Lm

namespace Go.Lm
open Go Go.RowKit

inductive S1
 | c (x:Cl)
 | agg (l:List Cl)
inductive SV
 | v (x:S1)
 | cC (l:List S1)
 | any
 | arr (k:IntKind) (l:List Int)
abbrev SV.c (x:Cl):SV:=.v (.c x)
abbrev SV.k (v:Value):SV:=.v (.c (.k v))
abbrev SV.int (n:Int):SV:=.v (.c (.k (.int .i64 n)))
abbrev SV.bool (b:Bool):SV:=.v (.c (.k (.bool b)))
abbrev SV.str (s:ByteArray):SV:=.v (.c (.k (.string s)))
abbrev SV.tV:SV:=.cC []
def gr (E:Env) (g:World):S1->Value->Prop
 | .c x,u=>ck E g x u
 | .agg l,u=>∃ us,bz E g l us/\u= .agg us.toArray
def ir (E:Env) (g:World):List S1->List Value->Prop
 | [],us=>us= []
 | c::l,us=>∃ u r,us=u::r/\gr E g c u/\ir E g l r
def dd (E:Env) (g:World):SV->Value->Prop
 | .v x,u=>gr E g x u
 | .cC l,u=>∃ us,ir E g l us/\u= .tuple us.toArray
 | .any,_=>True
 | .arr k l,u=>u= .agg (l.map λn=>Value.int k n).toArray/\∀ n∈l,aB k n
section
variable {E E':Env} {g g':World}
theorem gr.mono (he:bu E E') (m:bt g g'):∀ {x:S1} {u:Value},gr E g x u->gr E' g' x u
 | .c _,_,h=>ck.mono he m h
 | .agg _,_,⟨us,h1,h2⟩=>⟨us,h1.mono he m,h2⟩
theorem ir.mono (he:bu E E') (m:bt g g'):∀ {l:List S1} {us:List Value},ir E g l us->ir E' g' l us
 | [],_,h=>h
 | _::_,_,⟨u,r,e,h1,h2⟩=>⟨u,r,e,h1.mono he m,h2.mono he m⟩
theorem dd.mono (he:bu E E') (m:bt g g'):∀ {x:SV} {u:Value},dd E g x u->dd E' g' x u
 | .v _,_,h=>gr.mono he m h
 | .cC _,_,⟨us,h1,h2⟩=>⟨us,h1.mono he m,h2⟩
 | .any,_,_=>trivial
 | .arr _ _,_,h=>h
theorem ir.get:∀ {l:List S1} {us:List Value} {i:Nat} {c:S1},ir E g l us->l[i]?=some c->∃ u,us[i]?=some u/\gr E g c u
 | [],_,_,_,_,h=>by simp at h
 | x::l,_,0,c,⟨u,r,e,h1,_⟩,h=>by
  have:x=c:=by simpa using h
  subst this;exact ⟨u,by rw [e];rfl,h1⟩
 | x::l,_,i+1,c,⟨u,r,e,_,h2⟩,h=>by
  obtain ⟨v,h3,h4⟩:=ir.get (i:=i) h2 (by simpa using h);exact ⟨v,by rw [e];simpa using h3,h4⟩
theorem ir.length:∀ {l:List S1} {us:List Value},ir E g l us->us.length=l.length
 | [],_,h=>by rw [show _=_ from h];rfl
 | _::_,_,⟨_,_,e,_,h⟩=>by rw [e,av,av,h.length]
theorem jq:dd E g .tV undef:=⟨[],rfl,rfl⟩
def S1.cells:S1->List Cl
 | .c x=>[x]
 | .agg l=>l
theorem ck.one:∀ {c:Cl} {u:Value},ck E g c u->u.oneCell'=true
 | .k v,_,⟨h,hk⟩=>by
  rw [h];cases v<;>first| rfl| exact hk
 | .d e x,u,h=> @ajk e.den e.rep _ _ _ h
 | .de e x i off,u,⟨h0,v,h1,h2⟩=>by
  obtain ⟨cs,h3,_⟩:=As h1 h0.1 h0.2.1;obtain ⟨a,ha,_⟩:=h3 g (bt.refl g);rw [h2,ha];rfl
 | .p l off,_,⟨b,_,h⟩=>by rw [h];rfl
 | .m l,_,⟨b,_,h⟩=>by rw [h];rfl
 | .sc l off n,_,⟨b,c,_,_,h⟩=>by rw [h];rfl
 | .fn f caps,_,⟨us,_,h⟩=>by rw [h];rfl
 | .Ee t c,_,⟨v,_,h⟩=>by rw [h];rfl
 | .Km,_,h=>h
 | .kl _ _,_,⟨_,h,h2⟩=>by grind
 | .o l,_,⟨_,a,n,c,h⟩=>by rw [h];rfl
 | .os l sz lo hi,_,⟨_,_,_,a,n,c,h⟩=>by rw [h];rfl
 | .oe l sz i off,_,⟨_,_,_,a,h⟩=>by rw [h];rfl
theorem bz.one:∀ {l:List Cl} {us:List Value},bz E g l us->∀ u∈us,u.oneCell'=true
 | [],us,h,u,hu=>by rw [show us= [] from h] at hu;cases hu
 | _::_,_,⟨x,r,e,h1,h2⟩,u,hu=>by
  rw [e] at hu;rcases bm.1 hu with hu| hu;rw [hu];exact h1.one;exact h2.one u hu
theorem nY {u:Value} (h:u.oneCell'=true):u.cells= #[u]:=by cases u<;>first| rfl| cases h
theorem gr.cells:∀ {x:S1} {u:Value},gr E g x u->bz E g x.cells u.cells.toList
 | .c x,u,h=>by
  have h':ck E g x u:=h;rw [nY h'.one];exact ⟨u,[],rfl,h',rfl⟩
 | .agg l,u,⟨us,h1,h2⟩=>by rw [h2];exact h1
inductive Kk
 | int| str
@[reducible] def Kk.den:Kk->Type
 | .int=>Int
 | .str=>ByteArray
@[reducible] def Kk.key:(k:Kk)->dK k.den
 | .int=>(inferInstance:dK Int)
 | .str=>(inferInstance:dK ByteArray)
def Kk.get {α:Type} (k:Kk) (l:List (k.den×α)) (x:k.den):Option α:= @iS k.den k.key α l x
def Kk.put {α:Type} (k:Kk) (l:List (k.den×α)) (x:k.den) (v:α):List (k.den×α):= @qY k.den k.key α l x v
def Kk.del {α:Type} (k:Kk) (l:List (k.den×α)) (x:k.den):List (k.den×α):= @pf k.den k.key α l x
def ke (P:Program) (t:TypeId) (k:Kk):Bool:=match P.underlying t,k with
 | some (.int .i64),.int=>true
 | some .string,.str=>true
 | _,_=>false
def Kk.beq:Kk->Kk->Bool
 | .int,.int| .str,.str=>true
 | _,_=>false
theorem Kk.eq_of_beq:∀ {a b:Kk},a.beq b=true->a=b:=by
 intro a b;cases a<;>cases b<;>intro h<;>first| rfl| cases h
def ag4 {k' k:Kk} {e' e:Ty} (h:k'=k) (q:e'=e) (x:List (k'.den×e'.den)):List (k.den×e.den):=h▸q▸x
def asM {k':Kk} {e':Ty} (k:Kk) (e:Ty) (x:List (k'.den×e'.den)):Option (List (k.den×e.den)):=
 if h:k'.beq k=true then (if q:e'.beq e=true then some (ag4 (Kk.eq_of_beq h) (Ty.eq_of_beq q) x) else none) else none
theorem abE {k' k:Kk} {e' e:Ty} {x:List (k'.den×e'.den)} {y:List (k.den×e.den)} (h:asM k e x=some y):∃ (p:k'=k) (q:e'=e),y=ag4 p q x:=by
 grind [asM]
def IsV (g:World) (e:Ty) (u:Value) (x:e.den):Prop:=∃ cs,e.rep.rel g cs x/\if e.row then u= .agg cs.toArray else cs= [u]
def rW (g:World) (k:Kk) (e:Ty):List (k.den×Value)->List (k.den×e.den)->Prop
 | [],xs=>xs= []
 | p::m,xs=>∃ x r,xs=(p.1,x)::r/\IsV g e p.2 x/\rW g k e m r
theorem IsV.mono (m:bt g g') {e:Ty} {u:Value} {x:e.den}:IsV g e u x->IsV g' e u x:=λ⟨cs,h1,h2⟩=>⟨cs,e.rep.mono m h1,h2⟩
theorem rW.mono (m:bt g g') {k:Kk} {e:Ty}:∀ {l:List (k.den×Value)} {xs:List (k.den×e.den)},rW g k e l xs->rW g' k e l xs
 | [],_,h=>h
 | _::_,_,⟨x,r,q,h1,h2⟩=>⟨x,r,q,h1.mono m,h2.mono m⟩
abbrev cU:Ty:=.pair .str (.pair (.sl .u8) .unit)
abbrev noTy:Ty:=.pair (.sl .str) (.pair (.int .i64) (.pair (.int .i64) (.pair (.pair (.int .i64) (.pair (.int .i64) (.pair (.int .i64) .unit))) (.pair (.sl .u8) (.pair .str (.pair (.sl cU) (.pair .bool .unit)))))))
abbrev bc:=List ByteArray×Int×Int×(Int×Int×Int×Unit)×List UInt8×ByteArray×List (ByteArray×List UInt8×Unit)×Bool×Unit
abbrev UF:=Int×ByteArray×Int×Unit
structure UpY where
 q1:Int
 q2:Int
 L:List bc
 E:List UF
 nx:Int
def uH (r:Int) (n:bc):Bool:=n.2.1==r
def isE (d:Int) (s:ByteArray) (e:UF):Bool:=e.1==d&& decide (e.2.1=s)
def toR (r:Int) (e:UF):Bool:=e.2.2.1==r
def UpY.at (Y:UpY) (r:Int):Option bc:=Y.L.find? (uH r)
def UpY.lq (Y:UpY) (d:Int) (s:ByteArray):Option UF:=Y.E.find? (isE d s)
def UpY.agA (Y:UpY) (r:Int):Int:=if r=1 then 1 else (Y.E.countP (toR r):Int)
abbrev uL:=List (K3×Value×List Int)
def vT (M:uL):List (K3×Value):=M.map λp=>(p.1,p.2.1)
def td {α:Type} (M:List (Int×Nat×α)):List (Int×Value):=M.map λp=>(p.1,ptr p.2.1 0)
inductive HK
 | ch (kt tI:TypeId) (M:uL) (o:Option (Nat×Value)) (key:K3) (st:Option Nat)
 | pm (kt tR:TypeId) (e:Ty) (M:List (Int×Nat×e.den)) (i:Nat) (key:Int) (bb:Nat)
 | sf (t:TypeId) (e:Ty) (xs:List e.den) (i:Int) (off:Nat)
inductive AbK
 | iter (z:ByteArray) (p:Nat)
 | ch (kt tI:TypeId) (M:uL)
 | pm (kt tR:TypeId) (e:Ty) (M:List (Int×Nat×e.den))
 | pz (kt tR:TypeId) (e:Ty) (M:List (Int×Nat×e.den)) (hz:Hp) (mb:Nat)
 | PN (kt:TypeId) (l:Nat) (e:Ty) (hz:Hp) (mb:Nat) (left:List (Int×Nat×e.den)) (cur:Option (Int×Nat×e.den))
def pD (e:Ty) (t:TypeId) (v:Value) (xs:List e.den):Atom:= @B6 e.den e.rep t v xs
def Kk.tV:Kk->TypeDesc
 | .int=>.int .i64
 | .str=>.string
def Ra (hz:Hp) (v0:Value) (ob:Array MapEntry×Nat):Prop:=v0= .map none\/∃ b,v0= .map (some b)/\hz b=some (.map ob.1 ob.2)
def Pc (tI:TypeId) (p:K3×Value×List Int):Atom:=pD (.int .i64) tI p.2.1 p.2.2
def uY (tR:TypeId) (e:Ty) (p:Int×Nat×e.den):Atom:=⟨λg h=>∃ us,e.rep.rel g us p.2.2/\h p.2.1=some (.cells us.toArray tR (0,0)),λm ⟨us,h1,h2⟩=>⟨us,e.rep.mono m h1,h2⟩⟩
def aez (A:List Atom) (o:Option (Nat×Value)):List Atom:=match o with
 | some (i,_)=>dJ A i
 | none=>A
def af7 (M:uL) (o:Option (Nat×Value)) (key:K3) (st:Option Nat) (vn:Value):Prop:=match o with
 | some (i,u)=>(∃ xs,M[i]?=some (key,u,xs))/\(st=none->u=vn)
 | none=>∀ p∈M,p.1≠key
def P4 (P:Program) (kt:TypeId) (mb:Nat) (M:uL) (key:K3) (val:Value):Option Nat->Atom
 | none=>mapA P kt mb (vT M)
 | some st=>GJ P kt mb (qY (vT M) key val) key st
def chA (kt tI:TypeId) (M:uL) (v:Value):Atom:=
 exA λx:Nat×Program=>tf (v=ptr x.1 0/\xh x.2 kt=true)::mapA x.2 kt x.1 (vT M)::M.map (Pc tI)
def pmA (kt tR:TypeId) (e:Ty) (M:List (Int×Nat×e.den)) (v:Value):Atom:=
 exA λx:Nat×Program=>tf (v=ptr x.1 0/\x.2.underlying kt=some (.int .i64))::mapA x.2 kt x.1 (td M)::M.map (uY tR e)
def sfA (t:TypeId) (e:Ty) (xs:List e.den) (i:Int) (off:Nat) (v vn:Value):Atom:=
 ⟨λg h=>∃ cs:List (List Value),(uG t e.size v xs.length cs.flatten).sat g h/\((∀ x∈cs,x.length=e.size)/\cs.length=xs.length/\0<=i/\i< xs.length/\off< e.size)/\((∃ a n c,vn= .slice a n c)/\∃ r,cs[i.toNat]?=some r/\r[off]?=some vn)/\∀ g',bt g g'->∀ (E:Env) (c:Cl),ck E g' c vn->∀ x',e.of ((e.cells (aA e xs i)).set off c)=some (x',[])-> @eF e.den e.rep g' cs (xs.set i.toNat x'),λm ⟨cs,h1,h2,h3,h4⟩=>⟨cs,(uG _ _ _ _ _).mono m h1,h2,h3,λg' m'=>h4 g' (m.trans m')⟩⟩
def aev {α:Type} (kt:TypeId) (hz:Hp) (mb:Nat) (left:List (Int×Nat×α)) (cur:Option (Int×Nat×α)) (v:Value):Atom:=
 exA λx:Nat×Program×(Array MapEntry×Nat)=>[tf (v=ptr x.1 0/\x.2.1.underlying kt=some (.int .i64)/\Ra hz (.map (some mb)) x.2.2),@mL Int Kk.int.key x.2.1 kt (.map (some mb)) x.2.2 x.1 (td left) (cur.map λp=>(p.1,ptr p.2.1 0))]
def HK.atom:HK->Value->Value->Atom
 | .ch kt tI M o key st,v,vn=>exA λx:Nat×Program×Value=>tf (v=ptr x.1 0/\xh x.2.1 kt=true/\af7 M o key st vn/\((vT M).map (·.1)).Nodup)::P4 x.2.1 kt x.1 M key x.2.2 st::aez (M.map (Pc tI)) o
 | .pm kt tR e M i key bb,v,vn=>exA λx:Nat×Program=>tf (v=ptr x.1 0/\x.2.underlying kt=some (.int .i64)/\(∃ y,M[i]?=some (key,bb,y))/\vn=ptr bb 0)::mapA x.2 kt x.1 (td M)::dJ (M.map (uY tR e)) i
 | .sf t e xs i off,v,vn=>sfA t e xs i off v vn
def AbK.atom:AbK->Value->Atom
 | .ch kt tI M,v=>chA kt tI M v
 | .pm kt tR e M,v=>pmA kt tR e M v
 | .pz kt tR e M hz mb,v=>⟨λg h=>v=ptr mb 0/\h=hz/\(pmA kt tR e M v).sat g h,λm ⟨h1,h2,h3⟩=>⟨h1,h2,Atom.mono _ m h3⟩⟩
 | .PN kt _ _ hz mb left cur,v=>aev kt hz mb left cur v
 | .iter z p,v=>⟨λ_ h=>z.size<=maxLen/\∃ b,v=ptr b 0/\h b=some (.stringIter z p),λ_ h=>h⟩
inductive HO
 | cells (t:TypeId) (cs:List Cl)
 | sl (t:TypeId) (e:Ty) (xs:List e.den)
 | held (t:TypeId) (e:Ty) (xs:List e.den)
 | map (t:TypeId) (k:Kk) (e:Ty) (xs:List (k.den×e.den))
 | abs (a:Value->Atom)
 | ab (k:AbK)
 | gone
 | pL (k:HK) (n:Nat)
def akk (E:Env) (l:Nat) (t:TypeId) (cs:List Cl):Atom:=
 ⟨λg h=>∃ b us,E[l]?=some (ptr b 0)/\bz E g cs us/\h b=some (.cells us.toArray t (0,0)),λm ⟨b,us,h1,h2,h3⟩=>⟨b,us,h1,h2.mono (bu.refl _) m,h3⟩⟩
def cF (E:Env) (l:Nat):HO->Atom
 | .cells t cs=>akk E l t cs
 | .sl t e xs=>⟨λg h=>∃ v,E[l]?=some v/\(pD e t v xs).sat g h,λm ⟨v,h1,h2⟩=>⟨v,h1,Atom.mono _ m h2⟩⟩
 | .held _ e xs=>⟨λg _=>∃ v,E[l]?=some v/\od e g v xs,λm ⟨v,h1,h2⟩=>⟨v,h1,h2.mono m⟩⟩
 | .map t k e xs=>⟨λg h=>∃ b m,E[l]?=some (ptr b 0)/\rW g k e m xs/\∃ P,ke P t k=true/\(@mapA k.den k.key P t b m).sat g h,λm ⟨b,l,h1,h2,h3⟩=>⟨b,l,h1,h2.mono m,h3⟩⟩
 | .abs a=>⟨λg h=>∃ v,E[l]?=some v/\(a v).sat g h,λm ⟨v,h1,h2⟩=>⟨v,h1,Atom.mono _ m h2⟩⟩
 | .ab k=>⟨λg h=>∃ v,E[l]?=some v/\(k.atom v).sat g h,λm ⟨v,h1,h2⟩=>⟨v,h1,Atom.mono _ m h2⟩⟩
 | .gone=>tf True
 | .pL k n=>⟨λg h=>∃ v vn,E[l]?=some v/\E[n]?=some vn/\(k.atom v vn).sat g h,λm ⟨v,vn,h1,h2,h3⟩=>⟨v,vn,h1,h2,Atom.mono _ m h3⟩⟩
def a8 (E:Env):Nat->List HO->List Atom
 | _,[]=>[]
 | l,o::r=>cF E l o::a8 E (l+1) r
theorem cF.env (he:bu E E') {l:Nat}:∀ {o:HO} {h:Hp},(cF E l o).sat g h->(cF E' l o).sat g h
 | .cells _ _,_,⟨b,us,h1,h2,h3⟩=>⟨b,us,he _ _ h1,h2.mono he (bt.refl _),h3⟩
 | .sl _ _ _,_,⟨v,h1,h2⟩=>⟨v,he _ _ h1,h2⟩
 | .held _ _ _,_,⟨v,h1,h2⟩=>⟨v,he _ _ h1,h2⟩
 | .map ..,_,⟨b,m,h1,h2⟩=>⟨b,m,he _ _ h1,h2⟩
 | .abs _,_,⟨v,h1,h2⟩=>⟨v,he _ _ h1,h2⟩
 | .ab _,_,⟨v,h1,h2⟩=>⟨v,he _ _ h1,h2⟩
 | .gone,_,h=>h
 | .pL _ _,_,⟨v,vn,h1,h2,h3⟩=>⟨v,vn,he _ _ h1,he _ _ h2,h3⟩
variable {F:List Atom}
theorem a8.env (he:bu E E'):∀ {H:List HO} {k:Nat} {h:Hp},bd g (a8 E k H++F) h->bd g (a8 E' k H++F) h
 | [],_,_,s=>s
 | _::_,_,_,⟨h1,h2,ap,e,s1,s2⟩=>⟨h1,h2,ap,e,cF.env he s1,a8.env he s2⟩
theorem uZ:∀ (H:List HO) (k:Nat),(a8 E k H).length=H.length
 | [],_=>rfl
 | _::r,k=>by simp [a8,uZ r (k+1)]
theorem jT:∀ {H:List HO} {k l:Nat} {o:HO},H[l]?=some o->wX (a8 E k H++F) l=some (cF E (k+l) o)
 | [],_,_,_,h=>by simp at h
 | x::r,k,0,o,h=>by
  have:x=o:=by simpa using h
  subst this;rfl
 | x::r,k,l+1,o,h=>by
  have:=jT (H:=r) (k:=k+1) (l:=l) (o:=o) (by simpa using h);rw [show k+(l+1)=k+1+l by omega];exact this
theorem kM:∀ {H:List HO} {k l:Nat} {o':HO},l< H.length->xV (a8 E k H++F) l (cF E (k+l) o')=a8 E k (H.set l o')++F
 | [],_,_,_,h=>by grind
 | x::r,k,0,o',h=>rfl
 | x::r,k,l+1,o',h=>by
  have:=kM (H:=r) (k:=k+1) (l:=l) (o':=o') (by simpa using h)
  grind [xV,a8]
theorem bd.toEnd {a:Atom}:∀ {A:List Atom} {h:Hp},bd g (a::(A++F)) h->bd g (A++a::F) h
 | [],_,s=>s
 | _::_,_,s=>by
  obtain ⟨h1,h2,ap,e,s1,s2⟩:=s.swap;exact ⟨h1,h2,ap,e,s1,bd.toEnd s2⟩
theorem bd.po {a:Atom}:∀ {A:List Atom} {h:Hp},bd g (A++a::F) h->bd g (a::(A++F)) h
 | [],_,s=>s
 | _::_,_,⟨h1,h2,ap,e,s1,s2⟩=>bd.swap ⟨h1,h2,ap,e,s1,bd.po s2⟩
theorem oX:∀ (H K:List HO) (k:Nat),a8 E k (H++K)=a8 E k H++a8 E (k+H.length) K
 | [],_,_=>rfl
 | x::r,K,k=>by
  show cF E k x::a8 E (k+1) (r++K)=cF E k x::(a8 E (k+1) r++a8 E (k+(r.length+1)) K);rw [oX r K (k+1),show k+1+r.length=k+(r.length+1) by omega]
structure Sat (W:cV) (E:Env) (g w:World) (H:List HO) (F:List Atom):Prop where
 sl:SL W g w (a8 E 0 H++F)
 len:E.length=H.length
variable {W:cV} {w w':World} {H:List HO}
theorem Sat.pick {l:Nat} {o:HO} (S:Sat W E g w H F) (h:H[l]?=some o):SL W g w (cF E l o::dJ (a8 E 0 H++F) l):=by
 have:=S.sl.pick l (jT h)
 grind
theorem Sat.back {l:Nat} {o:HO} (o':HO) (hl:E.length=H.length) (h:H[l]?=some o) (S:SL W g w (cF E l o'::dJ (a8 E 0 H++F) l)):Sat W E g w (H.set l o') F:=by
 have fB:=(aw.1 h).1;refine ⟨?_,by grind⟩;have:=S.ou l (jT h);have h2:=kM (E:=E) (F:=F) (k:=0) (o':=o') fB
 grind
theorem Sat.push {o:HO} {v:Value} (hl:E.length=H.length) (S:SL W g w (cF (E++ [v]) H.length o::(a8 E 0 H++F))):Sat W (E++ [v]) g w (H++ [o]) F:=by
 refine ⟨?_,by grind⟩;rw [oX,aM,gA];refine S.cv λh s=>?_;obtain ⟨h1,h2,ap,e,s1,s2⟩:=s;exact bd.toEnd ⟨h1,h2,ap,e,s1,a8.env (bu.app E [v]) s2⟩
theorem Sat.move {l:Nat} {o o2:HO} {v:Value} (hl:E.length=H.length) (h:H[l]?=some o) (S:SL W g w (cF (E++ [v]) H.length o2::dJ (a8 E 0 H++F) l)):Sat W (E++ [v]) g w (H.set l .gone++ [o2]) F:=by
 have hlen:(H.set l .gone).length=H.length:=jc;refine Sat.push (H:=H.set l .gone) (by omega) ?_;rw [hlen];refine S.cv λh0 s=>?_;obtain ⟨h1,h2,ap,e,s1,s2⟩:=s;refine ⟨h1,h2,ap,e,s1,?_⟩;have fB:=(aw.1 h).1;have h3:=kM (E:=E) (F:=F) (k:=0) (o':=.gone) fB;rw [<-h3];exact bd.ou (jT h) ⟨λ_=>none,h2,λ_=>.inl rfl,by rfl,trivial,s2⟩
theorem Sat.le (S:Sat W E g w H F) (l:Le w w'):Sat W E g w' H F:=⟨S.sl.le l,S.len⟩
theorem Sat.m (S:Sat W E g w H F):bt g w:=S.sl.m
end

abbrev Ay:=List (Nat×SV)
def gg:Ay->Nat->Option SV
 | [],_=>none
 | (k,v)::s,t=>bif Nat.beq k t then some v else gg s t
def gF:List (Nat×HO)->Nat->Option HO
 | [],_=>none
 | (k,v)::s,t=>bif Nat.beq k t then some v else gF s t
def lF:List HO->Nat->HO
 | [],_=>.gone
 | o::_,0=>o
 | _::r,i+1=>lF r i
structure Bs where
 f:Ay
 h:List HO
structure Ov where
 f:Ay
 h:List (Nat×HO)
 n:Nat
def Bs.slot (b:Bs) (s:Ov) (t:Nat):Option SV:=match gg s.f t with
 | some v=>some v
 | none=>gg b.f t
def Bs.obj (b:Bs) (s:Ov) (l:Nat):HO:=match gF s.h l with
 | some o=>o
 | none=>lF b.h l
def Bs.heap (b:Bs) (s:Ov):List HO:=(bQ s.n).map (b.obj s)
def Ov.put (s:Ov) (d:Option Nat) (v:SV):Ov:=match d with
 | some t=> {s with f:=(t,v)::s.f}
 | none=>s
def Ov.dR (s:Ov) (l:Nat) (o:HO):Ov:= {s with h:=(l,o)::s.h}
def Ov.new (s:Ov) (o:HO):Ov:= {s with h:=(s.n,o)::s.h,n:=s.n+1}
def okB:Value->Bool
 | .int k n=>(Lit.int k n).wf
 | .string s=>decide (s.size<=maxLen)
 | v=>v.oneCell'
def uz:List Value->Option (List Cl)
 | []=>some []
 | v::r=>if okB v then (match uz r with| some l=>some (.k v::l)| none=>none) else none
def JW:Value->Option SV
 | .agg cs=>match uz cs.toList with
  | some l=>some (.v (.agg l))
  | none=>none
 | v=>if okB v then some (.k v) else none
def fe (b:Bs) (s:Ov):Operand->Option SV
 | .tmp t=>b.slot s t
 | .const v=>JW v
 | .func f=>some (.c (.fn f []))
 | .global _=>none
def br (c:Bool) (p q:Prop):Prop:=Bool.rec q p c
def j9 (a b:ByteArray):Bool:=a.toList==b.toList
def lS (a b:ByteArray):Bool:=Op.bytesLess a.toList b.toList
def arith (k:IntKind) (z:Int) (K:SV->Prop):Prop:=match k with
 | .i64=>aB .i64 z/\K (.int z)
 | k=>aB k (k.wrap z)->K (.k (.int k (k.wrap z)))
def da (op:BinOp) (k:IntKind) (x y:Int):Int:=
 let a:=BitVec.ofInt k.bits x;let b:=BitVec.ofInt k.bits y
 k.wrap ((match op with
  | .and=>a&&& b
  | .or=>a||| b
  | .xor=>a ^^^ b
  | _=>a&&& ~~~b).toNat)
def AB (k:IntKind) (x y:Int):Int:=k.wrap (x*2 ^ (min y.toNat k.bits))
def ll (k:IntKind) (x y:Int):Int:=x.fdiv (2 ^ (min y.toNat k.bits))
abbrev fW (T:List Int) (im:List UInt8) (s0 s1 s2 s3 s4 s5 s6 s7 s8 s9:Int) (pl ids:List Int) (nm:Int):HO:=.cells 90 [.de (.int .u32) T 0 0,.d .u8 im,.k (.int .i64 s0),.k (.int .i64 s1),.k (.int .i64 s2),.k (.int .i64 s3),.k (.int .i64 s4),.k (.int .i64 s5),.k (.int .i64 s6),.k (.int .i64 s7),.k (.int .i64 s8),.k (.int .i64 s9),.d (.int .i64) pl,.d (.int .i64) ids,.p 1 0,.p 2 0,.p 3 0,.m 4,.k (.int .i64 nm)]
abbrev wS (L:List bc) (ids:List Int):HO:=.cells 120 [.p 1 0,.p 2 0,.p 3 0,.d noTy L,.d (.int .i64) ids,.m 4,.m 5,.m 6]
abbrev wQ (M:List (Int×Int)):HO:=.map 3 .int (.int .i64) M
abbrev kT (M:List (ByteArray×Int)):HO:=.map 9 .str (.int .i64) M
abbrev pZ (a:Int):Int:=ll .u64 (IntKind.wrap .u64 a) 1
abbrev iM (a:Int):Int:=IntKind.wrap .i64 a
abbrev iW:SV:=.v (.c (.k (.bool false)))
abbrev ml:SV:=.v (.c (.k (.bool true)))
abbrev bq:Ty:=.int .i64
abbrev bC:Ty:=.sl .u8
abbrev aJ (n:Nat):Prop:=n<=9223372036854775807
abbrev fa (n:Nat):Prop:=n<=140737488355328
abbrev Jd:bc:=([],0,0,(0,0,0,()),[],ByteArray.mk #[],[],false,())
abbrev aP {α:Type} (l:List α):Int:=(l.length:Int)
abbrev ay {α:Type} (l:List α):Int:=(l.length:Int)
abbrev ah:Int:=0
abbrev aW:Int:=1
abbrev dm:Int:=2
abbrev lh:Int:=3
abbrev cA:Int:=4
abbrev iF:Int:=8
abbrev Je:Int:=16
abbrev gn:Int:=64
abbrev bE:Int:=128
abbrev fb:Int:=256
abbrev bx:Nat:=0
abbrev bH:Nat:=1
abbrev a7:Nat:=2
abbrev eZ:Nat:=3
abbrev cQ:Nat:=4
abbrev kj:Nat:=5
abbrev Aa:Nat:=6
abbrev kh:Nat:=7
abbrev GB:Nat:=8
abbrev iE:Nat:=9
abbrev eu:Nat:=64
abbrev gf:Nat:=128
abbrev bI:Nat:=256
def Qf (op:BinOp) (k:IntKind) (x y:Int) (K:SV->Prop):Prop:=match op with
 | .add=>arith k (x+y) K
 | .sub=>arith k (x - y) K
 | .mul=>arith k (x*y) K
 | .quo=>y≠0/\arith k (x.tdiv y) K
 | .rem=>y≠0/\(aB k (x.tmod y)->K (.k (.int k (x.tmod y))))
 | .eql=>K (.bool (x==y))
 | .neq=>K (.bool (x !=y))
 | .lss=>K (.bool (decide (x< y)))
 | .leq=>K (.bool (decide (x<=y)))
 | .gtr=>K (.bool (decide (x>y)))
 | .geq=>K (.bool (decide (x≥y)))
 | .shl| .shr=>False
 | op=>aB k (da op k x y)->K (.k (.int k (da op k x y)))
def Ve (op:BinOp) (x y:ByteArray) (K:SV->Prop):Prop:=match op with
 | .add=>x.size+y.size<=9223372036854775807/\K (.str (x++y))
 | .eql=>K (.bool (j9 x y))
 | .neq=>K (.bool (!j9 x y))
 | .lss=>K (.bool (lS x y))
 | .leq=>K (.bool (lS x y|| j9 x y))
 | .gtr=>K (.bool (!(lS x y|| j9 x y)))
 | .geq=>K (.bool (!lS x y))
 | _=>False
inductive Nil
 | yes| no| may (p:Prop)| unknown
def Ta (b:Bs) (s:Ov):Cl->Nil
 | .k (.pointer none)| .k (.slice none 0 0)| .k (.map none)| .k .nilFunc| .k .nilIface=>.yes
 | .p .. | .de .. | .oe .. | .m .. | .fn .. | .Ee .. =>.no
 | .d _ x=>.may (x= [])
 | .o l=>match b.obj s l with
  | .sl _ _ x| .held _ _ x=>.may (x= [])
  | _=>.unknown
 | _=>.unknown
def GH (d:Option TypeDesc) (y:Cl):Bool:=match d,y with
 | some (.pointer _),.k (.pointer none)=>true
 | some (.slice _),.k (.slice none 0 0)=>true
 | some (.map _ _),.k (.map none)=>true
 | some (.func _ _ _),.k .nilFunc=>true
 | some (.interface _),.k .nilIface=>true
 | _,_=>false
def Zt (d:Option TypeDesc) (y:Cl):Bool:=match d,y with
 | some (.pointer _),.k (.pointer none)| some (.pointer _),.p .. | some (.pointer _),.de .. | some (.pointer _),.oe .. =>true
 | some (.slice _),.k (.slice none 0 0)| some (.slice _),.d .. | some (.slice _),.o .. =>true
 | some (.map _ _),.k (.map none)| some (.map _ _),.m .. =>true
 | some (.func _ _ _),.k .nilFunc| some (.func _ _ _),.fn .. =>true
 | some (.interface _),.k .nilIface| some (.interface _),.Ee .. =>true
 | _,_=>false
def isIface:Cl->Bool
 | .k .nilIface=>true
 | _=>false
def aeF (b:Bs) (s:Ov) (JS:Bool) (c:Cl) (eq:Bool) (K:SV->Prop):Prop:=match Ta b s c with
 | .yes=>if isIface c&& !JS then False else K (.bool eq)
 | .no=>K (.bool (!eq))
 | .may p=>∀ c:Bool,(c=true->p)->K (.bool (if eq then c else !c))
 | .unknown=>False
def isEq:BinOp->Option Bool
 | .eql=>some true
 | .neq=>some false
 | _=>none
def JP (P:Program):(fuel:Nat)->List Field->List Cl->List Cl->Option Bool
 | 0,_,_,_=>none
 | _+1,[],_,_=>some true
 | d+1,f::fs,xs,ys=>if f.name != "_" then (match P.underlying f.type,P.info? f.type with
  | some (.int k0),some i=>if Nat.beq i.size 1 then (match xs[f.offset]?,ys[f.offset]? with
   | some (.k (.int k a)),some (.k (.int k' b))=>if IntKind.beq k0 k&& IntKind.beq k k' then (match JP P d fs xs ys with
    | some r=>some ((a==b)&& r)
    | none=>none) else none
   | _,_=>none) else none
  | some .bool,some i=>if Nat.beq i.size 1 then (match xs[f.offset]?,ys[f.offset]? with
   | some (.k (.bool a)),some (.k (.bool b))=>(match JP P d fs xs ys with
    | some r=>some ((a==b)&& r)
    | none=>none)
   | _,_=>none) else none
  | some .string,some i=>if Nat.beq i.size 1 then (match xs[f.offset]?,ys[f.offset]? with
   | some (.k (.string a)),some (.k (.string b))=>(match JP P d fs xs ys with
    | some r=>some (j9 a b&& r)
    | none=>none)
   | _,_=>none) else none
  | some (.struct gs),some i=>if P.stoodInHeld f.type then none else (match JP P d gs.toList ((xs.drop f.offset).take i.size) ((ys.drop f.offset).take i.size) with
   | some a=>(match JP P d fs xs ys with
    | some r=>some (a&& r)
    | none=>none)
   | none=>none)
  | _,_=>none) else none
def JB (wr:Bool) (op:BinOp) (k:IntKind) (x y:Int) (K:SV->Prop):Prop:=match wr with
 | true=>(match k,op with
  | .i64,.add=>aB .i64 (IntKind.wrap .i64 (x+y))->K (.int (IntKind.wrap .i64 (x+y)))
  | .i64,.sub=>aB .i64 (IntKind.wrap .i64 (x - y))->K (.int (IntKind.wrap .i64 (x - y)))
  | .i64,.mul=>aB .i64 (IntKind.wrap .i64 (x*y))->K (.int (IntKind.wrap .i64 (x*y)))
  | k,op=>Qf op k x y K)
 | false=>Qf op k x y K
def zd (k0:IntKind):List Cl->List Cl->Option Bool
 | [],[]=>some true
 | .k (.int k a)::l,.k (.int k' b)::m=>if IntKind.beq k0 k&& IntKind.beq k k' then (match zd k0 l m with
  | some r=>some ((a==b)&& r)
  | none=>none) else none
 | _,_=>none
def aau (P:Program) (n:Nat) (e:TypeId) (l m:List Cl):Option Bool:=match P.underlying e,P.info? e with
 | some (.int k0),some i=>if Nat.beq i.size 1&& Nat.beq l.length n then zd k0 l m else none
 | _,_=>none
def ED (wr:Bool) (P:Program) (b:Bs) (s:Ov) (JS:Bool) (op:BinOp) (t:TypeId) (x y:SV) (K:SV->Prop):Prop:=match x,y with
 | .v (.c (.k (.int k m))),.v (.c (.k (.int k' n)))=>match op with
  | .shl=>0<=n/\(aB k (AB k m n)->K (.k (.int k (AB k m n))))
  | .shr=>0<=n/\(aB k (ll k m n)->K (.k (.int k (ll k m n))))
  | op=>if IntKind.beq k k' then JB wr op k m n K else False
 | .v (.c (.k (.string m))),.v (.c (.k (.string n)))=>Ve op m n K
 | .v (.c (.k (.bool m))),.v (.c (.k (.bool n)))=>match P.underlying t,op with
  | some .bool,.eql=>K (.bool (m==n))
  | some .bool,.neq=>K (.bool (!(m==n)))
  | _,_=>False
 | .v (.agg l),.v (.agg m)=>match P.underlying t with
  | some (.struct fs)=>if P.eqGuardType P.depth t|| P.stoodInHeld t then False else (match isEq op,JP P 9999 fs.toList l m with
   | some true,some r=>K (.bool r)
   | some false,some r=>K (.bool (!r))
   | _,_=>False)
  | some (.array n e)=>if P.eqGuardType P.depth t then False else (match isEq op,aau P n e l m with
   | some true,some r=>K (.bool r)
   | some false,some r=>K (.bool (!r))
   | _,_=>False)
  | _=>False
 | .v (.c x),.v (.c y)=>match isEq op with
  | some e=>if GH (P.underlying t) y&& Zt (P.underlying t) x then aeF b s JS x e K else if GH (P.underlying t) x&& Zt (P.underlying t) y then aeF b s JS y e K else False
  | none=>False
 | _,_=>False
def unV (wr:Bool) (op:UnOp) (x:SV) (K:SV->Prop):Prop:=match op,x with
 | .not,.v (.c (.k (.bool b)))=>K (.bool (!b))
 | .neg,.v (.c (.k (.int k n)))=>JB wr .sub k 0 n K
 | .xor,.v (.c (.k (.int k n)))=>aB k (da .xor k (if k.signed then -1 else k.max) n)->K (.k (.int k (da .xor k (if k.signed then -1 else k.max) n)))
 | _,_=>False
def qb (P:Program) (t:TypeId) (cs:List Cl) (off:Nat):Option S1:=match P.underlying t with
 | none=>none
 | some d=>if d.isRow then (match P.info? t with
   | some i=>if Nat.ble (off+i.size) cs.length then some (.agg ((cs.drop off).take i.size)) else none
   | none=>none)
  else match cs[off]? with
   | some c=>some (.c c)
   | none=>none
def oh (P:Program) (t:TypeId):Option (List Cl):=match P.info? t with
 | some i=>match i.zero with
  | some z=>uz z.cells.toList
  | none=>none
 | none=>none
def ME (P:Program) (t:TypeId):Option (Nat×IntKind):=match P.underlying t,P.info? t with
 | some (.array n e),some i=>(match P.underlying e,P.info? e with
  | some (.int k),some ie=>if gH 8 n&& (Nat.ble n 1000000&& (Nat.beq i.size n&& Nat.beq ie.size 1)) then some (n,k) else none
  | _,_=>none)
 | _,_=>none
def tn (P:Program) (b:Bs) (s:Ov) (t:TypeId) (x:Cl) (K:SV->Prop):Prop:=match x with
 | .p l off=>match b.obj s l with
  | .cells _ cs=>match qb P t cs off with
   | some v=>K (.v v)
   | none=>False
  | _=>False
 | .kl l (.pointer (some ⟨bb,off,none⟩))=>match b.obj s l with
  | .ab (.pz _ _ e M _ _)=>∃ p,p∈M/\p.2.1=bb/\match qb P t (e.cells p.2.2) off with
   | some v=>e.ok p.2.2->K (.v v)
   | none=>False
  | _=>False
 | .de e x i off=>match qb P t (e.cells (aA e x i)) off with
  | some v=>e.ok (aA e x i)->K (.v v)
  | none=>False
 | .oe l sz i off=>match b.obj s l with
  | .sl _ e xs=>(match ME P t with
   | some (n,k)=>(match zw (.int k) xs with
    | some ys=>if Nat.beq sz 1&& Nat.beq off 0 then (i=0/\ys.length=n/\K (.arr k ys)) else False
    | none=>False)
   | none=>if Nat.beq e.size sz then (0<=i/\i< xs.length/\match qb P t (e.cells (aA e xs i)) off with
    | some v=>e.ok (aA e xs i)->K (.v v)
    | none=>False) else False)
  | .pL (.sf _ e _ j o) n=>(match P.underlying t with
   | some (.slice _)=>if Nat.beq e.size sz&& Nat.beq off o then i=j/\K (.c (.o n)) else False
   | _=>False)
  | _=>False
 | _=>False
def Sz (cs:List Cl) (off:Nat) (l:List Cl):List Cl:=cs.take off++(l++cs.drop (off+l.length))
def BY (P:Program) (b:Bs) (s:Ov) (t:TypeId) (x:Cl) (v:S1) (K:Ov->Prop):Prop:=match P.info? t with
 | none=>False
 | some i=>if Nat.beq v.cells.length i.size then match x with
  | .p l off=>match b.obj s l with
   | .cells u cs=>if Nat.ble (off+i.size) cs.length then K (s.dR l (.cells u (Sz cs off v.cells))) else False
   | _=>False
  | .oe l sz i off=>match b.obj s l,v with
   | .sl u e xs,.c c=>if Nat.beq e.size sz&& gH off e.size then (0<=i/\i< xs.length/\match e.of ((e.cells (aA e xs i)).set off c) with
     | some (x',[])=>K (s.dR l (.sl u e (xs.set i.toNat x')))
     | _=>False) else False
   | .sl u e xs,.agg l'=>if Nat.beq e.size sz&& Nat.ble (off+l'.length) e.size then (0<=i/\i< xs.length/\match e.of (Sz (e.cells (aA e xs i)) off l') with
     | some (x',[])=>K (s.dR l (.sl u e (xs.set i.toNat x')))
     | _=>False) else False
   | _,_=>False
  | _=>False
 else False
def uw (P:Program) (t:TypeId) (j:Nat):Option Field:=match P.underlying t with
 | some (.struct fs)=>fs[j]?
 | _=>none
def abH (x:Cl) (o:Nat):Option Cl:=match x with
 | .p l off=>some (.p l (off+o))
 | .de e x i off=>if Nat.ble (off+o) e.size then some (.de e x i (off+o)) else none
 | .oe l sz i off=>some (.oe l sz i (off+o))
 | .kl l (.pointer (some ⟨bb,off,none⟩))=>some (.kl l (.pointer (some ⟨bb,off+o,none⟩)))
 | _=>none
def Er (P:Program) (b:Bs) (s:Ov) (t:TypeId) (x:Cl) (K:SV->Prop):Prop:=match P.underlying t,x with
 | some .string,.k (.string z)=>K (.int z.size)
 | some (.slice _),.k (.slice none 0 0)=>K (.int 0)
 | some (.map _ _),.k (.map none)=>K (.int 0)
 | some (.slice _),.d _ x=>x.length<=9223372036854775807->K (.int x.length)
 | some (.slice _),.sc _ _ n=>n<=9223372036854775807/\K (.int n)
 | some (.slice _),.o l=>match b.obj s l with
  | .sl _ _ xs| .held _ _ xs=>xs.length<=9223372036854775807->K (.int xs.length)
  | _=>False
 | some (.map k _),.m l=>match b.obj s l with
  | .map k' kk _ xs=>if Nat.beq k k'&& ke P k kk then (xs.length<=9223372036854775807->K (.int xs.length)) else False
  | .ab (.pm kt _ _ M)=>if Nat.beq k kt&& ke P k .int then (M.length<=9223372036854775807->K (.int M.length)) else False
  | _=>False
 | _,_=>False
def iC (P:Program) (b:Bs) (s:Ov) (t:TypeId) (x:Cl) (i:Int) (K:SV->Prop):Prop:=match P.underlying t with
 | some (.array n et)=>match P.info? et,x with
  | some ie,.p l off=>0<=i/\i< n/\K (.c (.p l (off+i.toNat*ie.size)))
  | some ie,.oe l sz j 0=>(match b.obj s l with
   | .sl _ e xs=>if Nat.beq e.size ie.size&& Nat.beq sz ie.size then (j=0/\0<=i/\i< n/\i< xs.length/\K (.c (.oe l e.size i 0))) else False
   | .held _ e xs=>if Nat.beq e.size ie.size&& Nat.beq sz ie.size then (j=0/\0<=i/\i< n/\i< xs.length/\K (.c (.de e xs i 0))) else False
   | _=>False)
  | some ie,.de e xs j 0=>if Nat.beq e.size ie.size then (j=0/\0<=i/\i< n/\i< xs.length/\K (.c (.de e xs i 0))) else False
  | _,_=>False
 | some (.slice et)=>match P.info? et with
  | none=>False
  | some ie=>match x with
   | .d e x=>if Nat.beq e.size ie.size then (0<=i/\i< x.length/\K (.c (.de e x i 0))) else False
   | .sc l off n=>0<=i/\i< n/\K (.c (.p l (off+i.toNat*ie.size)))
   | .o l=>match b.obj s l with
    | .sl _ e xs=>if Nat.beq e.size ie.size then (0<=i/\i< xs.length/\K (.c (.oe l e.size i 0))) else False
    | .held _ e xs=>if Nat.beq e.size ie.size then (0<=i/\i< xs.length/\K (.c (.de e xs i 0))) else False
    | _=>False
   | _=>False
 | _=>False
def bX:Option Int->Int->Int
 | none,n=>n
 | some l,_=>l
def SU {α:Type} (x:List α) (lo hi:Option Int) (K:List α->Prop):Prop:=match lo,hi with
 | none,none=>K x
 | some l,none=>0<=l/\l<=x.length/\K (x.drop l.toNat)
 | none,some h=>0<=h/\h<=x.length/\K (x.take h.toNat)
 | some l,some h=>0<=l/\l<=h/\h<=x.length/\K ((x.drop l.toNat).take (h.toNat - l.toNat))
def Zh (lo hi:Option Int) (n:Int) (K:Int->Int->Prop):Prop:=match lo,hi with
 | none,none=>K 0 n
 | some l,none=>0<=l/\l<=n/\K l n
 | none,some h=>0<=h/\h<=n/\K 0 h
 | some l,some h=>0<=l/\l<=h/\h<=n/\K l h
theorem M3 {α:Type} {x:List α} {lo hi:Option Int} {K:List α->Prop} (h:SU x lo hi K):0<=bX lo 0/\bX lo 0<=bX hi x.length/\bX hi x.length<=x.length/\K ((x.drop (bX lo 0).toNat).take ((bX hi x.length).toNat - (bX lo 0).toNat)):=by
 cases lo<;>cases hi
 .exact ⟨bh _,Int.natCast_nonneg _,bh _,by
   show K ((x.drop 0).take ((x.length:Int).toNat - 0));rw [o9,bL,Nat.sub_zero,fz];exact h⟩
 .trivial
 .rename_i l;obtain ⟨h1,h2,h3⟩:=h;exact ⟨h1,h2,bh _,by
   show K ((x.drop l.toNat).take ((x.length:Int).toNat - l.toNat))
   grind [aL]⟩
 assumption
theorem Zg {lo hi:Option Int} {n:Nat} {K:Int->Int->Prop} (h:Zh lo hi n K):0<=bX lo 0/\bX lo 0<=bX hi n/\bX hi n<=n/\K (bX lo 0) (bX hi n):=by
 cases lo<;>cases hi;exact ⟨bh _,Int.natCast_nonneg _,bh _,h⟩;trivial
 .obtain ⟨h1,h2,h3⟩:=h;exact ⟨h1,h2,bh _,h3⟩
 assumption
def pC (P:Program) (b:Bs) (s:Ov) (t:TypeId) (x:Cl) (lo hi:Option Int) (K:SV->Prop):Prop:=match P.underlying t with
 | some .string=>match x with
  | .k (.string z)=>0<=bX lo 0/\bX lo 0<=bX hi z.size/\bX hi z.size<=z.size/\K (.str (z.extract (bX lo 0).toNat (bX hi z.size).toNat))
  | _=>False
 | some (.slice et)=>match P.info? et with
  | none=>False
  | some ie=>match x with
   | .d e x=>if Nat.beq e.size ie.size then SU x lo hi λy=>K (.c (.d e y)) else False
   | .o q=>match b.obj s q with
    | .sl _ e x=>if Nat.beq e.size ie.size then Zh lo hi x.length λl h=>K (.c (.os q e.size l h)) else False
    | .held _ e x=>if Nat.beq e.size ie.size then SU x lo hi λy=>K (.c (.d e y)) else False
    | _=>False
   | _=>False
 | some (.array n et)=>match P.info? et with
  | none=>False
  | some ie=>match x with
   | .p l off=>n<=9223372036854775807/\0<=bX lo 0/\bX lo 0< n/\bX lo 0<=bX hi n/\bX hi n<=n/\K (.c (.sc l (off+(bX lo 0).toNat*ie.size) ((bX hi n).toNat - (bX lo 0).toNat)))
   | _=>False
 | _=>False
def intOf (b:Option SV):Option (Option Int):=match b with
 | none=>some none
 | some (.v (.c (.k (.int .i64 n))))=>some (some n)
 | _=>none

abbrev Ct:=List SV->List HO->(SV->List HO->Prop)->Prop
def Ae:List (Nat×Ct)->Nat->Ct
 | [],_=>λ_ _ _=>False
 | (k,c)::r,f=>bif Nat.beq k f then c else Ae r f
mutual
def Cl.labels:Cl->List Nat
 | .p l _| .o l| .os l _ _ _| .oe l _ _ _| .m l| .sc l _ _| .kl l _=>[l]
 | .fn _ caps=>Cl.nT caps
 | .Ee _ c=>c.labels
 | _=>[]
def Cl.nT:List Cl->List Nat
 | []=>[]
 | c::r=>c.labels++Cl.nT r
end
def S1.labels:S1->List Nat
 | .c x=>x.labels
 | .agg l=>Cl.nT l
def SV.labels:SV->List Nat
 | .v x=>x.labels
 | .cC l=>l.flatMap S1.labels
 | .any=>[]
 | .arr _ _=>[]
def HO.labels:HO->List Nat
 | .cells _ cs=>Cl.nT cs
 | .pL _ n=>[n]
 | _=>[]
mutual
def Cl.fj (r:Nat->Option Nat):Cl->Cl
 | .p l off=>match r l with
  | some l'=>.p l' off
  | none=>.Km
 | .o l=>match r l with
  | some l'=>.o l'
  | none=>.Km
 | .os l sz lo hi=>match r l with
  | some l'=>.os l' sz lo hi
  | none=>.Km
 | .oe l sz i off=>match r l with
  | some l'=>.oe l' sz i off
  | none=>.Km
 | .m l=>match r l with
  | some l'=>.m l'
  | none=>.Km
 | .sc l off n=>match r l with
  | some l'=>.sc l' off n
  | none=>.Km
 | .fn f caps=>.fn f (Cl.wL r caps)
 | .Ee t c=>.Ee t (c.fj r)
 | .k v=>.k v
 | .d e x=>.d e x
 | .de e x i off=>.de e x i off
 | .kl l v=>match r l with
  | some l'=>.kl l' v
  | none=>.Km
 | .Km=>.Km
def Cl.wL (r:Nat->Option Nat):List Cl->List Cl
 | []=>[]
 | c::l=>c.fj r::Cl.wL r l
end
def S1.fj (r:Nat->Option Nat):S1->S1
 | .c x=>.c (x.fj r)
 | .agg l=>.agg (Cl.wL r l)
def S1.wL (r:Nat->Option Nat):List S1->List S1
 | []=>[]
 | a::l=>a.fj r::S1.wL r l
def SV.fj (r:Nat->Option Nat):SV->SV
 | .v x=>.v (x.fj r)
 | .cC l=>.cC (S1.wL r l)
 | .any=>.any
 | .arr k l=>.arr k l
def HO.fj (r:Nat->Option Nat):HO->HO
 | .cells t cs=>.cells t (Cl.wL r cs)
 | .pL k n=>match r n with
  | some n'=>.pL k n'
  | none=>.gone
 | o=>o
def iA:Nat->List Nat->Bool
 | _,[]=>false
 | n,m::r=>bif Nat.beq n m then true else iA n r
def nG:List Nat->Bool
 | []=>true
 | a::r=> !iA a r&& nG r
def iD:List Nat->Nat->Option Nat
 | [],_=>none
 | m::r,n=>bif Nat.beq m n then some 0 else match iD r n with
  | some i=>some (i+1)
  | none=>none
def sB (ob:Nat->HO):Nat->List Nat->List Nat->List Nat
 | 0,_,done=>done
 | _+1,[],done=>done
 | f+1,l::r,done=>bif iA l done then sB ob f r done else sB ob f ((ob l).labels++r) (done++ [l])
def qf:List SV->List Nat
 | []=>[]
 | v::r=>v.labels++qf r
def AG (b:Bs) (s:Ov):List Operand->Option (List SV)
 | []=>some []
 | x::r=>match fe b s x with
  | some v=>match AG b s r with
   | some l=>some (v::l)
   | none=>none
  | none=>none
def ko (ls:List Nat) (n:Nat) (l:Nat):Option Nat:=match ls[l]? with
 | some m=>some m
 | none=>some (n+(l - ls.length))
def fp (ls0:List Nat) (n0:Nat):List Nat->List HO->Ov->Ov
 | _,[],s=>s
 | l::ls,o::H,s=>fp ls0 n0 ls H (s.dR l (o.fj (ko ls0 n0)))
 | [],o::H,s=>fp ls0 n0 [] H (s.new (o.fj (ko ls0 n0)))
def rk (P:Program) (f:FuncId):Bool:=match P.funcs[f]? with
 | some fn=> !(fn.name== "runtime.NumGoroutine")&& !fn.body.isNone
 | none=>false
def TD:Cl->Prop->Prop
 | .k (.int k n),p=>aB k n->p
 | .k (.string z),p=>z.size<=9223372036854775807->p
 | .d _ x,p=>x.length<=9223372036854775807->p
 | _,p=>p
def Qx:List Cl->Prop->Prop
 | [],p=>p
 | c::r,p=>TD c (Qx r p)
def aar:S1->Prop->Prop
 | .c c,p=>TD c p
 | .agg l,p=>Qx l p
def Qw:List S1->Prop->Prop
 | [],p=>p
 | c::r,p=>aar c (Qw r p)
def TC:SV->Prop->Prop
 | .v x,p=>aar x p
 | .cC l,p=>Qw l p
 | .any,p=>p
 | .arr _ _,p=>p
def Qv:List SV->Prop->Prop
 | [],p=>p
 | c::r,p=>TC c (Qv r p)
def Dz (ct:FuncId->Ct) (b:Bs) (s:Ov) (f:FuncId) (args:List SV) (K:SV->Ov->Prop):Prop:=
 let ls:=sB (b.obj s) 1000 (qf args) []
 if nG ls&& ls.all (λl=>gH l s.n) then
  ct f (args.map (·.fj (iD ls))) (ls.map λl=>(b.obj s l).fj (iD ls)) λr H'=>
   (if Nat.ble ls.length H'.length then TC r (K (r.fj (ko ls s.n)) (fp ls s.n ls H' s)) else False)
 else False
def YQ:Cl->Cl->Prop->Prop
 | .k v,.k v',p=>v=v'/\p
 | .o l,.o l',p=>if Nat.beq l l' then p else False
 | .p l o,.p l' o',p=>if Nat.beq l l'&& Nat.beq o o' then p else False
 | .kl l v,.kl l' v',p=>if Nat.beq l l' then v=v'/\p else False
 | .d e x,.d _ y,p=>match zw e y with
  | some y'=>x=y'/\p
  | none=>False
 | _,_,_=>False
def Pe:List Cl->List Cl->Prop->Prop
 | [],[],p=>p
 | c::l,d::r,p=>YQ c d (Pe l r p)
 | _,_,_=>False
def YO:HO->HO->Prop->Prop
 | .cells t cs,.cells t' zg,p=>if Nat.beq t t' then Pe cs zg p else False
 | .sl t e x,.sl t' _ x',p=>if Nat.beq t t' then (match zw e x' with
  | some y=>x=y/\p
  | none=>False) else False
 | .gone,.gone,p=>p
 | _,_,_=>False
def Pd:List HO->List HO->Prop->Prop
 | [],[],p=>p
 | a::l,b::r,p=>YO a b (Pd l r p)
 | _,_,_=>False
def TP (ct:FuncId->Ct) (b:Bs) (s:Ov) (f:FuncId) (args:List SV) (K:SV->Ov->Prop):Prop:=
 let ls:=sB (b.obj s) 1000 (qf args) []
 if nG ls&& ls.all (λl=>gH l s.n&& (b.obj s l).labels.all λq=>iA q ls) then
  ct f (args.map (·.fj (iD ls))) (ls.map λl=>(b.obj s l).fj (iD ls)) λr H'=>
   Pd H' (ls.map λl=>(b.obj s l).fj (iD ls)) (TC r (K (r.fj (ko ls s.n)) s))
 else False
structure Vx where
 P:Program
 ct:List (Nat×Ct)
 ty:List (Nat×Ty)
 /-- Which aj8 arguments are held from then on. -/
 hold:List Nat:=[]
 /-- Which functions leave the objects that they are given. -/
 ro:List Nat:=[]
 wrap:Bool:=false
 /-- Which loops are gone through round by round, and how often at most. -/
 unr:List (Nat×Nat):=[]
 /-- Is what is out put back at the end, and at heads? -/
 clo:Bool:=false
 cloH:Bool:=false
 /-- The types of maps of records: the record's type, and what it is. -/
 pmT:List (Nat×Nat×Ty):=[]
 /-- The literals of slices.Chunk, and their elements. -/
 chk:List (Nat×Ty):=[]
 /-- Is a slice of one's own laid into another one's element without being held (until the loop behind that)? -/
 sfh:Bool:=false
 /-- Are slices that are made held at once? -/
 mkd:Bool:=false
def agz:List (Nat×Nat)->Nat->Option Nat
 | [],_=>none
 | (k,v)::s,t=>bif Nat.beq k t then some v else agz s t
def GN:List (Nat×Ty)->Nat->Option Ty
 | [],_=>none
 | (k,v)::s,t=>bif Nat.beq k t then some v else GN s t
def O7 (off:Nat) (cs:List Cl):Ty:=match cs[off]? with
 | some (.k (.int .u8 _))=>.u8
 | some (.k (.int k _))=>.int k
 | _=>.str
def Vm (e:Ty):(off n:Nat)->List Cl->Option (List e.den)
 | 0,0,_=>some []
 | 0,n+1,c::r=>match e.of [c] with
  | some (z,[])=>match Vm e 0 n r with
   | some l=>some (z::l)
   | none=>none
  | _=>none
 | off+1,n,_::r=>Vm e off n r
 | _,_,[]=>none
def kW (b:Bs):List Cl->Ov->(List Cl->Ov->Prop)->Prop
 | []=>λs k=>k [] s
 | c::r=>λs k=>match c with
  | .o l=>(match b.obj s l with
   | .sl t e xs=>kW b r (s.dR l (.held t e xs)) λr' s'=>k (.d e xs::r') s'
   | .held _ e xs=>kW b r s λr' s'=>k (.d e xs::r') s'
   | _=>False)
  | .sc l off n=>(match b.obj s l with
   | .cells _ cs=>if Nat.beq (O7 off cs).size 1 then (match Vm (O7 off cs) off n cs with
    | some zs=>kW b r (s.dR l .gone) λr' s'=>k (.d (O7 off cs) zs::r') s'
    | none=>False) else False
   | _=>False)
  | .oe l sz i off=>(match b.obj s l with
   | .sl t e xs=>if Nat.beq e.size sz&& Nat.ble off e.size then (0<=i/\i< xs.length/\kW b r (s.dR l (.held t e xs)) λr' s'=>k (.de e xs i off::r') s') else False
   | .held _ e xs=>if Nat.beq e.size sz&& Nat.ble off e.size then (0<=i/\i< xs.length/\kW b r s λr' s'=>k (.de e xs i off::r') s') else False
   | _=>False)
  | .os l sz lo hi=>(match b.obj s l with
   | .sl t e xs=>if Nat.beq e.size sz then (0<=lo/\lo<=hi/\hi<=xs.length/\kW b r (s.dR l (.held t e xs)) λr' s'=>k (.d e ((xs.drop lo.toNat).take (hi.toNat - lo.toNat))::r') s') else False
   | .held _ e xs=>if Nat.beq e.size sz then (0<=lo/\lo<=hi/\hi<=xs.length/\kW b r s λr' s'=>k (.d e ((xs.drop lo.toNat).take (hi.toNat - lo.toNat))::r') s') else False
   | _=>False)
  | c=>kW b r s λr' s'=>k (c::r') s'
def vV (b:Bs):List SV->Ov->(List SV->Ov->Prop)->Prop
 | []=>λs k=>k [] s
 | v::r=>λs k=>match v with
  | .v (.c c)=>kW b [c] s λcs s=>match cs with
   | [c']=>vV b r s λr' s'=>k (.v (.c c')::r') s'
   | _=>False
  | .v (.agg l)=>kW b l s λcs s=>vV b r s λr' s'=>k (.v (.agg cs)::r') s'
  | v=>vV b r s λr' s'=>k (v::r') s'
def tp (b:Bs) (s:Ov) (e:Ty) (x:Cl):Option (List e.den):=match x with
 | .k (.slice none 0 0)=>some []
 | .d _ xs=>zw e xs
 | .o l=>match b.obj s l with
  | .sl _ _ xs| .held _ _ xs=>zw e xs
  | _=>none
 | _=>none
def YF (b:Bs) (s:Ov) (e:Ty) (x:Cl) (K:List e.den->Prop):Prop:=match x with
 | .os q sz lo hi=>match b.obj s q with
  | .sl _ e' xs=>if Nat.beq e'.size sz then (0<=lo/\lo<=hi/\hi<=xs.length/\match zw e ((xs.drop lo.toNat).take (hi.toNat - lo.toNat)) with
   | some ys=>K ys
   | none=>False) else False
  | _=>False
 | x=>match tp b s e x with
  | some ys=>K ys
  | none=>False
def M8 (e:Ty):Nat->List Cl->Option (List e.den)
 | 0,[]=>some []
 | 0,_=>none
 | n+1,l=>match e.of l with
  | some (x,r)=>match M8 e n r with
   | some xs=>some (x::xs)
   | none=>none
  | none=>none
def NX (X:Vx) (t:TypeId):Option (TypeId×Ty×TypeInfo):=match X.P.underlying t with
 | some (.slice et)=>match X.P.info? et,GN X.ty et with
  | some ie,some e=>if Nat.beq e.size ie.size then some (et,e,ie) else none
  | _,_=>none
 | _=>none
def Ur (X:Vx) (et:TypeId) (e:Ty):Bool:=match X.P.info? et with
 | some ie=>gH 0 e.size&& (match ie.zero with
  | some z=>Nat.beq z.cells.size e.size
  | none=>false)
 | none=>false
def Nu (X:Vx) (et:TypeId):Bool:=match X.P.info? et with
 | some ie=>Nat.beq ie.size 1&& (match ie.zero with
  | some (.int .u8 0)=>Nat.beq ie.bytes 1
  | _=>false)
 | none=>false
def Kd (X:Vx) (b:Bs) (s:Ov) (t t2:TypeId) (x y:Cl) (K:SV->Ov->Prop):Prop:=match X.P.underlying t,X.P.underlying t2,y with
 | some (.slice et),some .string,.k (.string z)=>if Nu X et then (match x with
  | .k (.slice none 0 0)=>z.size<=140737488355328/\K (.c (.o s.n)) (s.new (.sl et .u8 z.data.toList))
  | .o l=>match b.obj s l with
   | .sl Qz _ xs=>if Nat.beq Qz et then (match zw .u8 xs with
    | some xs=>xs.length+z.size<=140737488355328/\K (.c (.o s.n)) ((s.dR l .gone).new (.sl et .u8 (xs++z.data.toList)))
    | none=>False) else False
   | _=>False
  | _=>False) else False
 | _,_,_=>False
def Kc (X:Vx) (b:Bs) (s:Ov) (t t2:TypeId) (x y:Cl) (K:SV->Ov->Prop):Prop:=match NX X t with
 | none=>False
 | some (et,e,ie)=>if Nat.beq t t2 then (YF b s e y λys=>match x with
   | .k (.slice none 0 0)=>if Ur X et e then ys.length*ie.bytes<=140737488355328/\K (.c (.o s.n)) (s.new (.sl et e ys)) else False
   | .o l=>match b.obj s l with
    | .sl Qz _ xs=>if Nat.beq Qz et then (match zw e xs with
     | some xs=>if Ur X et e then (xs.length+ys.length)*ie.bytes<=140737488355328/\xs.length+ys.length<=9223372036854775807/\K (.c (.o s.n)) ((s.dR l .gone).new (.sl et e (xs++ys))) else False
     | none=>False) else False
    | _=>False
   | _=>False) else Kd X b s t t2 x y K
def Aq (place:Nat->Option (Nat×Nat)):List Cl->List (Nat×S1)->Option (List Cl)
 | cs,[]=>some cs
 | cs,(i,v)::r=>match place i with
  | none=>none
  | some (off,size)=>if Nat.beq v.cells.length size then (if Nat.ble (off+size) cs.length then Aq place (Sz cs off v.cells) r else none) else none
def tk (b:Bs) (s:Ov):List (Nat×Operand)->Option (List (Nat×S1))
 | []=>some []
 | (i,x)::r=>match fe b s x with
  | some (.v v)=>match tk b s r with
   | some l=>some ((i,v)::l)
   | none=>none
  | _=>none
def wg (P:Program) (t:TypeId) (ps:List (Nat×S1)) (K:SV->Prop):Prop:=match oh P t with
 | none=>False
 | some z=>match P.underlying t with
  | some (.struct fs)=>match fs.toList.mapM λf=>(P.info? f.type).map λi=>(f.offset,i.size) with
   | some places=>match Aq (λi=>places.toArray[i]?) z ps with
    | some cs=>K (.v (.agg cs))
    | none=>False
   | none=>False
  | some (.array _ e)=>match P.info? e with
   | some ie=>match Aq (λi=>some (i*ie.size,ie.size)) z ps with
    | some cs=>K (.v (.agg cs))
    | none=>False
   | none=>False
  | _=>False
def DN (X:Vx) (s:Ov) (t:TypeId) (n:Nat) (ps:List (Nat×S1)) (K:SV->Ov->Prop):Prop:=match X.P.underlying t with
 | some (.slice et)=>match X.P.info? et,oh X.P et with
  | some ie,some z=>if Nat.ble (n*ie.size) 16777216&& (gH 0 ie.size&& gH 0 n)&& Nat.beq z.length ie.size then (match Aq (λi=>some (i*ie.size,ie.size)) (au n z).flatten ps with
   | none=>False
   | some cs=>K (.c (.sc s.n 0 n)) (s.new (.cells et cs))) else False
  | _,_=>False
 | _=>False
def tG (X:Vx) (b:Bs) (s:Ov) (t:TypeId) (n:Nat) (ps:List (Nat×S1)) (K:SV->Ov->Prop):Prop:=match NX X t with
 | none=>DN X s t n ps K
 | some (et,e,ie)=>match oh X.P et with
  | none=>False
  | some z=>if Nat.ble (n*ie.size) 16777216&& (gH 0 ie.size|| Nat.beq n 0)&& Nat.beq z.length ie.size then (match Aq (λi=>some (i*ie.size,ie.size)) (au n z).flatten ps with
   | none=>False
   | some cs=>kW b cs s λzg s'=>match M8 e n zg with
    | some xs=>K (.c (.o s'.n)) (s'.new (.sl et e xs))
    | none=>False) else False
def ajw (X:Vx) (b:Bs) (s:Ov) (src dst e:TypeId) (l:Nat) (K:SV->Ov->Prop):Prop:=if Nat.beq src dst then (match X.P.underlying e with
 | some (.int .u8)=>match b.obj s l with
  | .sl et _ xs=>if Nat.beq et e then (match zw .u8 xs with
   | some ys=>ys≠ []/\K (.c (.d .u8 ys)) (s.dR l .gone)
   | none=>False) else False
  | _=>False
 | _=>False) else False
def widens:IntKind->IntKind->Bool
 | .u8,.i64| .u8,.u32| .u32,.i64| .i32,.i64=>true
 | _,_=>false
theorem EK {k' k:IntKind} {n:Int} (h:widens k' k=true) (hn:aB k' n):aB k n:=by
 cases k'<;>cases k<;>first| (cases h;done)| grind [aB]
def oV (X:Vx) (b:Bs) (s:Ov) (src dst:TypeId) (x:SV) (K:SV->Ov->Prop):Prop:=match X.P.underlying src,X.P.underlying dst,x with
 | some (.int _),some (.int k),.v (.c (.k (.int k' n)))=>if IntKind.beq k k' then K x s else if widens k' k then K (.k (.int k n)) s else (aB k (k.wrap n)->K (.k (.int k (k.wrap n))) s)
 | some .string,some .string,.v (.c (.k (.string _)))=>K x s
 | some (.int _),some .string,.v (.c (.k (.int _ n)))=>(Utf8.encode n).size<=9223372036854775807/\K (.str (Utf8.encode n)) s
 | some .string,some (.slice e),.v (.c (.k (.string z)))=>match X.P.underlying e with
  | some (.int .u8)=>K (.c (.d .u8 z.data.toList)) s
  | _=>False
 | some (.slice e),some .string,.v (.c y)=>match X.P.underlying e with
  | some (.int .u8)=>match tp b s .u8 y with
   | some l=>K (.str (fY l)) s
   | none=>False
  | _=>False
 | some (.slice _),some (.slice e),.v (.c (.o l))=>ajw X b s src dst e l K
 | _,_,_=>False
def kC:Nat->Ty
 | 0=>.unit
 | n+1=>.pair .u8 (kC n)
def rowOf (ys:List UInt8):(n i:Nat)->(kC n).den
 | 0,_=>()
 | n+1,i=>(ys.getD i 0,rowOf ys n (i+1))
def Kb (P:Program) (t:TypeId) (x:Cl) (K:SV->Prop):Prop:=match P.underlying t,x with
 | some (.array n _),.d e xs=>(match zw .u8 xs with
  | some ys=>if gH 0 n&& Nat.ble n 8 then n<=ys.length/\K (.c (.de (kC n) [rowOf ys n 0] 0 0)) else False
  | none=>False)
 | _,_=>False
def H8 (P:Program) (t:TypeId) (x:Cl) (lo hi:Option Int) (m:Int) (K:SV->Prop):Prop:=match P.underlying t,x,hi with
 | some (.slice et),.d e xs,some h=>(match P.info? et with
  | some ie=>if Nat.beq e.size ie.size then 0<=bX lo 0/\bX lo 0<=h/\h<=m/\m<=xs.length/\K (.c (.d e ((xs.drop (bX lo 0).toNat).take (h.toNat - (bX lo 0).toNat)))) else False
  | none=>False)
 | _,_,_=>False
def mmV (mn:Bool) (x y:SV) (K:SV->Prop):Prop:=match x,y with
 | .v (.c (.k (.int k m))),.v (.c (.k (.int k' n)))=>if IntKind.beq k k' then (match mn with| true=>K (.k (.int k (min m n)))| false=>K (.k (.int k (max m n)))) else False
 | _,_=>False
def ajy (P:Program) (t:TypeId):Option Kk:=match P.underlying t with
 | some (.int .i64)=>some .int
 | some .string=>some .str
 | _=>none
def dTy (X:Vx) (t:TypeId):Option Ty:=match X.P.underlying t with
 | some (.int k)=>some (.int k)
 | some .string=>some .str
 | some .bool=>some .bool
 | _=>GN X.ty t
def zOk (e:Ty) (z:Value):Bool:=match z with
 | .agg _=>e.row
 | v=> !e.row&& v.oneCell'
def akf (P:Program) (t:TypeId) (e:Ty):Option e.den:=match P.info? t with
 | some i=>match i.zero with
  | some z=>if zOk e z then (match uz z.cells.toList with
   | some zl=>match e.of zl with
    | some (x,[])=>some x
    | _=>none
   | none=>none) else none
  | none=>none
 | none=>none
def xg:(k:Kk)->Cl->Option k.den
 | .int,c=>match c with
  | .k (.int .i64 n)=>some n
  | _=>none
 | .str,c=>match c with
  | .k (.string z)=>some z
  | _=>none
def aja (e:Ty) (x:e.den):Option S1:=if e.row then some (.agg (e.cells x)) else match e.cells x with
 | [c]=>some (.c c)
 | _=>none
def amC (e:Ty):S1->Bool
 | .agg _=>e.row
 | .c _=> !e.row
def Js (P:Program) (t:TypeId):Bool:=match P.info? t with
 | some i=>match i.zero with
  | some (.pointer none)=>true
  | _=>false
 | none=>false
def Y1 (u:S1) (cs:List Cl):S1:=match u,cs with
 | .c _,[d]=>.c d
 | _,_=>.agg cs
def Un (M:uL) (o:Option (Nat×Value)) (key:K3) (ys:List Int):uL:=match o with
 | some (i,v)=>M.set i (key,v,ys)
 | none=>M
def abz:HK->HO->Option HO
 | .ch kt tI M o key none,.sl t _ xs=>if Nat.beq t tI then (match zw (.int .i64) xs with
  | some ys=>some (.ab (.ch kt tI (Un M o key ys)))
  | none=>none) else none
 | .pm kt tR e M i key bb,.cells t cs=>if Nat.beq t tR then (match e.of cs with
  | some (x,[])=>some (.ab (.pm kt tR e (M.set i (key,bb,x))))
  | _=>none) else none
 | _,_=>none
def QL (b:Bs) (s:Ov) (l:Nat):Ov:=match b.obj s l with
 | .pL k n=>if Nat.beq n l then s else (match abz k (b.obj s n) with
  | some o'=>(s.dR n .gone).dR l o'
  | none=>s)
 | _=>s
def QM (b:Bs):List Nat->Ov->Ov
 | [],s=>s
 | l::r,s=>QM b r (QL b s l)
def Dv (c:Bool) (b:Bs) (s:Ov):Ov:=match c with
 | true=>QM b (bQ s.n) s
 | false=>s
def aeP:List Cl->Option K3
 | [.k (.int .u8 x),.k (.int .u8 y),.k (.int .u8 z)]=>some (az x.toNat,az y.toNat,az z.toNat)
 | _=>none
inductive FindM (M:uL) (key:K3):Option (Nat×Value)->List Int->Prop
 | at (i:Nat) (v:Value) (xs:List Int) (h:M[i]?=some (key,v,xs)):FindM M key (some (i,v)) xs
 | no (h:∀ p∈M,p.1≠key):FindM M key none []
def H9 (P:Program) (t tI:TypeId):Bool:=match P.underlying t,P.info? t with
 | some (.slice q),some i=>Nat.beq q tI&& (match i.zero with
  | some (.slice none 0 0)=>true
  | _=>false)
 | _,_=>false
def JY (X:Vx) (b:Bs) (s:Ov) (t:TypeId) (mx:Cl) (cs:List Cl) (K:SV->Ov->Prop):Prop:=match X.P.underlying t,mx with
 | some (.map k et),.m l=>match b.obj s l,aeP cs with
  | .ab (.ch kt tI M),some key=>if Nat.beq k kt&& (xh X.P k&& H9 X.P et tI) then (∀ o xs,FindM M key o xs->K (.c (.o s.n)) ((s.dR l (.pL (.ch kt tI M o key none) s.n)).new (.sl tI (.int .i64) xs))) else False
  | _,_=>False
 | _,_=>False
def QP (X:Vx) (b:Bs) (s:Ov) (t:TypeId) (mx:Cl) (cs:List Cl) (K:SV->Ov->Prop):Prop:=match X.P.underlying t,mx with
 | some (.map k et),.m l=>match b.obj s l,aeP cs with
  | .ab (.ch kt tI M),some key=>if Nat.beq k kt&& (xh X.P k&& H9 X.P et tI) then (M.length< 9223372036854775807/\∀ o xs (st:Nat),FindM M key o xs->K (.cC [.c (.o s.n),.c (.kl l (.int .i64 st))]) ((s.dR l (.pL (.ch kt tI M o key (some st)) s.n)).new (.sl tI (.int .i64) xs))) else False
  | _,_=>False
 | _,_=>False
def Iq (M:uL) (o:Option (Nat×Value)):uL:=match o with
 | some (i,_)=>M.eraseIdx i
 | none=>M
def QO (P:Program) (b:Bs) (s:Ov) (t:TypeId) (l:Nat) (st:Cl) (u:S1) (K:Ov->Prop):Prop:=match b.obj s l,st,u with
 | .pL (.ch kt tI M o key (some n)) _,.kl _ (.int .i64 x),.c (.o q)=>(match b.obj s q,P.underlying t with
  | .sl t' _ xs,some (.map k _)=>if Nat.beq t' tI&& (!Nat.beq q l&& (Nat.beq k kt&& xh P k)) then (match zw (.int .i64) xs with
   | some ys=>x=n/\∀ v,K ((s.dR q .gone).dR l (.ab (.ch kt tI ((key,v,ys)::Iq M o))))
   | none=>False) else False
  | _,_=>False)
 | _,_,_=>False
def Jf (X:Vx) (s:Ov) (t:TypeId) (l:Nat) (kt tR:TypeId) (e:Ty) (M:List (Int×Nat×e.den)) (ky:Cl) (K:SV->Ov->Prop):Prop:=match X.P.underlying t,ky with
 | some (.map k et),.k (.int .i64 q)=>if Nat.beq k kt&& (ke X.P k .int&& Js X.P et) then
   ((∀ p∈M,p.1≠q)->K (.cC [.c (.k (.pointer none)),.c (.k (.bool false))]) s)/\
   ∀ (i bb:Nat) (x:e.den),M[i]?=some (q,bb,x)->e.ok x->K (.cC [.c (.p s.n 0),.c (.k (.bool true))]) ((s.dR l (.pL (.pm kt tR e M i q bb) s.n)).new (.cells tR (e.cells x)))
  else False
 | _,_=>False
def PL (X:Vx) (b:Bs) (s:Ov) (t:TypeId) (l:Nat) (kt tR:TypeId) (e:Ty) (M:List (Int×Nat×e.den)) (ky:Cl) (u:S1) (K:Ov->Prop):Prop:=match X.P.underlying t,ky,u with
 | some (.map k _),.k (.int .i64 q),.c (.p n 0)=>(match b.obj s n with
  | .cells tR' _=>if Nat.beq k kt&& (ke X.P k .int&& (Nat.beq tR' tR&& !Nat.beq n l)) then
    (∀ p∈M,p.1≠q)/\M.length< 9223372036854775807/\∀ bb,K (s.dR l (.pL (.pm kt tR e ((q,bb,e.NZ)::M) 0 q bb) n))
   else False
  | _=>False)
 | _,_,_=>False
structure PmR where
 kt:TypeId
 tR:TypeId
 e:Ty
 M:List (Int×Nat×e.den)
def B7 (P:Program) (b:Bs) (s:Ov) (t:TypeId) (l sz:Nat) (i:Int) (off q:Nat) (K:Ov->Prop):Prop:=match P.info? t,b.obj s l,b.obj s q with
 | some ie,.sl u e xs,.sl .. =>if Nat.beq ie.size 1&& (Nat.beq e.size sz&& (gH off e.size&& !Nat.beq q l)) then (0<=i/\i< xs.length/\K (s.dR l (.pL (.sf u e xs i off) q))) else False
 | _,_,_=>False
def QN (b:Bs) (s:Ov) (l:Nat):Ov:=match b.obj s l with
 | .pL (.sf t e xs i off) n=>if Nat.beq n l then s else (match b.obj s n with
  | .sl t' e' ys=>(match e.of ((e.cells (aA e xs i)).set off (.d e' ys)) with
   | some (x',[])=>(s.dR n (.held t' e' ys)).dR l (.sl t e (xs.set i.toNat x'))
   | _=>s)
  | _=>s)
 | _=>s
def JX (b:Bs):List Nat->Ov->Ov
 | [],s=>s
 | l::r,s=>JX b r (QN b s l)
def aaF (c:Bool) (b:Bs) (s:Ov):Ov:=match c with
 | true=>JX b (bQ s.n) s
 | false=>s
def aeu (b:Bs) (s:Ov):Cl->Option (Nat×PmR)
 | .m l=>match b.obj s l with
  | .ab (.pm kt tR e M)=>some (l,⟨kt,tR,e,M⟩)
  | _=>none
 | _=>none
def ZF:List (Nat×Nat×Ty)->Nat->Option (Nat×Ty)
 | [],_=>none
 | (k,v)::s,t=>bif Nat.beq k t then some v else ZF s t
def Ju (X:Vx) (b:Bs) (s:Ov) (t:TypeId) (mx ky:Cl) (c:Bool) (K:SV->Prop):Prop:=match X.P.underlying t with
 | some (.map k et)=>match mx with
  | .m l=>match b.obj s l with
   | .map k' kk e xs=>if Nat.beq k k'&& ke X.P k kk then (match akf X.P et e,xg kk ky with
    | some z,some q=>match aja e ((kk.get xs q).getD z) with
     | some r=>e.ok ((kk.get xs q).getD z)->K (if c then .cC [r,.c (.k (.bool (kk.get xs q).isSome))] else .v r)
     | none=>False
    | _,_=>False) else False
   | _=>False
  | _=>False
 | _=>False
def w8 (X:Vx) (b:Bs) (s:Ov) (t:TypeId) (mx ky:Cl) (v:S1) (K:Ov->Prop):Prop:=match X.P.underlying t with
 | some (.map k _)=>match mx with
  | .m l=>kW b v.cells s λcs s1=>match b.obj s1 l with
   | .map k' kk e xs=>if Nat.beq k k'&& ke X.P k kk&& amC e v then (match xg kk ky,e.of cs with
    | some q,some (x,[])=>xs.length< 9223372036854775807/\K (s1.dR l (.map k' kk e (kk.put xs q x)))
    | _,_=>False) else False
   | _=>False
  | _=>False
 | _=>False
def C5 (X:Vx) (s:Ov) (t:TypeId) (K:SV->Ov->Prop):Prop:=match X.P.underlying t with
 | some (.map k et)=>match ajy X.P k,dTy X et with
  | some kk,some e=>K (.c (.m s.n)) (s.new (.map k kk e []))
  | _,_=>(match xh X.P k,X.P.underlying et with
    | true,some (.slice q)=>K (.c (.m s.n)) (s.new (.ab (.ch k q [])))
    | _,_=>match ZF X.pmT t with
     | some (tR,e)=>if ke X.P k .int then K (.c (.m s.n)) (s.new (.ab (.pm k tR e []))) else False
     | none=>False)
 | _=>False
def zeroV (P:Program) (t:TypeId):Option SV:=match P.info? t with
 | some i=>match i.zero with
  | some z=>JW z
  | none=>none
 | none=>none
def Qg (P:Program) (t:TypeId) (c:Cl) (K:SV->Prop):Prop:=match P.underlying t with
 | some (.interface _)=>False
 | some _=>K (.c (.Ee t c))
 | none=>False
def J9 (P:Program) (t:TypeId) (c:Cl) (K:SV->Prop):Prop:=match P.underlying t with
 | some (.interface _)=>False
 | some _=>match c with
  | .Ee t' c'=>if Nat.beq t' t then K (.cC [.c c',.c (.k (.bool true))]) else (match zeroV P t with
   | some (.v z)=>K (.cC [z,.c (.k (.bool false))])
   | _=>False)
  | .k .nilIface=>match zeroV P t with
   | some (.v z)=>K (.cC [z,.c (.k (.bool false))])
   | _=>False
  | _=>False
 | none=>False
def Ka (P:Program) (t:TypeId) (c:Cl) (K:SV->Prop):Prop:=match P.underlying t with
 | some (.interface _)=>False
 | some _=>match c with
  | .Ee t' c'=>if Nat.beq t' t then K (.c c') else False
  | _=>False
 | none=>False
def Ps (X:Vx) (b:Bs) (s:Ov) (t:TypeId) (c:Cl) (K:SV->Ov->Prop):Prop:=match X.P.underlying t,c with
 | some .string,.k (.string z)=>K (.c (.p s.n 0)) (s.new (.ab (.iter z 0)))
 | some (.map k _),.m l=>match b.obj s l with
  | .ab (.pm kt tR e M)=>if Nat.beq k kt&& ke X.P k .int then ∀ hz mb,K (.c (.p s.n 0)) ((s.dR l (.ab (.pz kt tR e M hz mb))).new (.ab (.PN kt l e hz mb M none))) else False
  | _=>False
 | _,_=>False
def Zz (b:Bs) (s:Ov) (c:Cl) (K:SV->Ov->Prop):Prop:=match c with
 | .p l 0=>match b.obj s l with
  | .ab (.iter z p)=>br (decide (p< z.size)) (K (.cC [.c (.k (.bool true)),.c (.k (.int .i64 p)),.c (.k (.int .i32 (Utf8.decode z p).1))]) (s.dR l (.ab (.iter z (p+(Utf8.decode z p).2))))) (K (.cC [.c (.k (.bool false))]) s)
  | _=>False
 | _=>False
def ZA (P:Program) (b:Bs) (s:Ov) (c:Cl) (K:SV->Ov->Prop):Prop:=match c with
 | .p li 0=>match b.obj s li with
  | .ab (.PN kt l e hz mb left _)=>match b.obj s l with
   | .ab (.pz kt' _ _ _ Xe OS)=>if Nat.beq kt kt'&& ke P kt .int then Xe=hz/\OS=mb/\(left= []->K (.cC [.c (.k (.bool false))]) s)/\
     ∀ x bb y mK,left.Perm ((x,bb,y)::mK)->aB .i64 x->K (.cC [.c (.k (.bool true)),.c (.k (.int .i64 x)),.c (.kl l (.pointer (some ⟨bb,0,none⟩)))]) (s.dR li (.ab (.PN kt l e hz mb mK (some (x,bb,y))))) else False
   | _=>False
  | _=>False
 | _=>False
def QB (P:Program) (b:Bs) (s:Ov) (c:Cl) (K:SV->Prop):Prop:=match c with
 | .p li 0=>match b.obj s li with
  | .ab (.PN kt l _ hz mb _ cur)=>match b.obj s l with
   | .ab (.pz kt' _ _ _ Xe OS)=>if Nat.beq kt kt'&& ke P kt .int then ∃ x bb y,Xe=hz/\OS=mb/\cur=some (x,bb,y)/\(aB .i64 x->K (.cC [.c (.k (.int .i64 x)),.c (.kl l (.pointer (some ⟨bb,0,none⟩)))])) else False
   | _=>False
  | _=>False
 | _=>False
def sd (k:IntKind):Nat->List Cl->Bool
 | 0,[]=>true
 | n+1,.k (.int k' 0)::r=>IntKind.beq k' k&& sd k n r
 | _,_=>false
def zx (P:Program) (b:Bs) (s:Ov) (t:TypeId) (x:Cl) (k:IntKind) (l:List Int) (K:Ov->Prop):Prop:=match ME P t,x with
 | some (n,k'),.oe lb sz i 0=>(match b.obj s lb with
  | .sl u e xs=>if IntKind.beq k k'&& (Nat.beq sz 1&& Nat.beq u t) then (match zw (.int k) xs with
   | some ys=>i=0/\ys.length=n/\l.length=n/\K (s.dR lb (.sl u (.int k) l))
   | none=>False) else False
  | _=>False)
 | _,_=>False
def vP (X:Vx) (s:Ov) (t:TypeId) (c d:Cl) (K:SV->Ov->Prop):Prop:=match X.P.underlying t,c,d with
 | some (.slice et),.k (.int .i64 n),.k (.int .i64 m)=>if Nu X et then n=m/\0<=n/\n<=140737488355328/\(match X.mkd with
  | true=>K (.c (.o s.n)) (s.new (.held et .u8 (au n.toNat 0)))
  | false=>K (.c (.o s.n)) (s.new (.sl et .u8 (au n.toNat 0)))) else False
 | _,_,_=>False
def isConst:Operand->Bool
 | .const _=>true
 | _=>false
def qA (b:Bs) (s:Ov) (x:Operand) (k:SV->Prop):Prop:=match fe b s x with
 | some v=>k v
 | none=>False
def nU (b:Bs) (s:Ov) (x:Operand) (k:Cl->Prop):Prop:=match fe b s x with
 | some (.v (.c c))=>k c
 | _=>False
def wU (b:Bs) (s:Ov) (q:Option Operand) (k:Option SV->Prop):Prop:=match q with
 | none=>k none
 | some y=>qA b s y λv=>k (some v)
def JZ:List SV->Option (List Cl)
 | []=>some []
 | .v (.c c)::r=>match JZ r with
  | some q=>some (c::q)
  | none=>none
 | _=>none
def v8:(off n j:Nat)->List Cl->List ByteArray->Option (List Cl)
 | 0,0,_,cs,_=>some cs
 | 0,n+1,j,c::r,ys=>match c with
  | .k (.string z)=>match v8 0 n (j+1) r ys with
   | some l=>some (.k (.string ((ys[j]?).getD z))::l)
   | none=>none
  | _=>none
 | off+1,n,j,c::r,ys=>match v8 off n j r ys with
  | some l=>some (c::l)
  | none=>none
 | _,_,_,[],_=>none
def copyV (X:Vx) (b:Bs) (s:Ov) (t t2:TypeId) (x y:Cl) (K:SV->Ov->Prop):Prop:=match X.P.underlying t,x with
 | some (.slice et),.sc l off n=>if Nat.beq t t2 then (match X.P.info? et,tp b s .str y,b.obj s l with
  | some ie,some ys,.cells u cs=>if Nat.beq ie.size 1 then (match v8 off n 0 cs ys with
   | some zg=>n<=9223372036854775807/\K (.int (min ys.length n:Nat)) (s.dR l (.cells u zg))
   | none=>False) else False
  | _,_,_=>False) else False
 | some (.slice et),.o l=>if Nat.beq t t2&& Nu X et then (match b.obj s l with
  | .sl Qz _ xs=>if Nat.beq Qz et then (match zw .u8 xs with
   | some xs=>YF b s .u8 y λys=>K (.int (min ys.length xs.length:Nat)) (s.dR l (.sl et .u8 (mP xs 0 ys)))
   | none=>False) else False
  | _=>False) else False
 | some (.slice et),.os l sz lo hi=>if Nat.beq t t2&& (Nu X et&& Nat.beq sz 1) then (match b.obj s l with
  | .sl Qz _ xs=>if Nat.beq Qz et then (match zw .u8 xs with
   | some xs=>0<=lo/\lo<=xs.length/\hi=xs.length/\YF b s .u8 y λys=>K (.int (min ys.length (xs.length - lo.toNat):Nat)) (s.dR l (.sl et .u8 (mP xs lo.toNat ys)))
   | none=>False) else False
  | _=>False) else False
 | _,_=>False
def pP (X:Vx) (b:Bs) (s:Ov) (bi:Builtin) (args:List SV) (ts:List TypeId) (K:SV->Ov->Prop):Prop:=match bi with
 | .len=>match args,ts with
  | [.v (.c x)],[t]=>Er X.P b s t x λr=>K r s
  | _,_=>False
 | .append=>match args,ts with
  | [.v (.c x),.v (.c y)],[t,t2]=>Kc X b s t t2 x y K
  | _,_=>False
 | .copy=>match args,ts with
  | [.v (.c x),.v (.c y)],[t,t2]=>copyV X b s t t2 x y K
  | _,_=>False
 | .min=>match args,ts with
  | [x,y],[_,_]=>mmV true x y λr=>K r s
  | _,_=>False
 | .max=>match args,ts with
  | [x,y],[_,_]=>mmV false x y λr=>K r s
  | _,_=>False
 | _=>False
def Tc (P:Program) (t:TypeId) (name:String):Option FuncId:=match P.info? t with
 | some ti=>match ti.methods.find? (·.name==name) with
  | some m=>if m.path.isEmpty then (match m.func,P.underlying t with
   | some (f,true),some (.pointer _)=>some f
   | _,_=>none) else none
  | none=>none
 | none=>none
def BT (X:Vx) (b:Bs) (s:Ov) (c:Call) (K:SV->Ov->Prop):Prop:=match AG b s c.args.toList with
 | none=>False
 | some args=>match c.callee with
  | .value f=>nU b s f λq=>match q with
   | .fn f caps=>if rk X.P f then (if iA f X.hold then vV b (args++caps.map .c) s λvs s=>Dz (Ae X.ct) b s f vs K else if iA f X.ro then TP (Ae X.ct) b s f (args++caps.map .c) K else Dz (Ae X.ct) b s f (args++caps.map .c) K) else False
   | _=>False
  | .builtin bi=>pP X b s bi args c.argTypes.toList K
  | .invoke ro name=>nU b s ro λq=>match q with
   | .Ee t r=>(match Tc X.P t name with
    | some f=>if rk X.P f then (if iA f X.ro then TP (Ae X.ct) b s f (.v (.c r)::args) K else Dz (Ae X.ct) b s f (.v (.c r)::args) K) else False
    | none=>False)
   | _=>False
def LW (X:Vx) (b:Bs) (s:Ov) (o:Oper) (K:SV->Ov->Prop):Prop:=match o.op with
  | .move x| .assign x=>qA b s x λv=>K v s
  | .pick c x y=>nU b s c λc=>qA b s x λv=>qA b s y λu=>match c with
    | .k (.bool q)=>br q (K v s) (K u s)
    | _=>False
  | .binOp op t x y _=>qA b s x λv=>qA b s y λu=>ED X.wrap X.P b s (isConst x|| isConst y) op t v u λr=>K r s
  | .unOp op _ x=>qA b s x λv=>unV X.wrap op v λr=>K r s
  | .extract x i=>qA b s x λv=>match v with
    | .cC l=>match l[i]? with
      | some c=>K (.v c) s
      | none=>False
    | _=>False
  | .field t x j=>qA b s x λv=>match v with
    | .v (.agg l)=>match uw X.P t j with
      | some f=>match qb X.P f.type l f.offset with
        | some r=>K (.v r) s
        | none=>False
      | none=>False
    | _=>False
  | .load t x=>nU b s x λc=>tn X.P b s t c λr=>K r s
  | .store t x y=>nU b s x λc=>qA b s y λu=>match u with
    | .v u=>match c with
      | .oe lb sz i off=>match X.sfh,u with
        | true,.c (.o q)=>B7 X.P b s t lb sz i off q λs'=>K .tV s'
        | _,_=>kW b u.cells s λcs s1=>BY X.P b s1 t c (Y1 u cs) λs'=>K .tV s'
      | _=>BY X.P b s t c u λs'=>K .tV s'
    | .arr k l=>zx X.P b s t c k l λs'=>K .tV s'
    | _=>False
  | .alloc t=>match oh X.P t with
    | some z=>match ME X.P t with
     | some (n,k)=>if sd k n z then K (.c (.oe s.n 1 0 0)) (s.new (.sl t (.int k) (au n 0))) else False
     | none=>K (.c (.p s.n 0)) (s.new (.cells t z))
    | none=>False
  | .box t x=>qA b s x λv=>match v with
    | .v v=>K (.c (.p s.n 0)) (s.new (.cells t v.cells))
    | .arr k l=>(match ME X.P t with
      | some (n,k')=>if IntKind.beq k k' then (l.length=n/\K (.c (.oe s.n 1 0 0)) (s.new (.sl t (.int k) l))) else False
      | none=>False)
    | _=>False
  | .nilCheck x=>nU b s x λc=>match c with
    | .p l off=>K (.c (.p l off)) s
    | .de e y i off=>K (.c (.de e y i off)) s
    | .oe l sz i off=>K (.c (.oe l sz i off)) s
    | .kl l (.pointer (some q))=>K (.c (.kl l (.pointer (some q)))) s
    | _=>False
  | .fieldAddr t x j=>nU b s x λc=>match uw X.P t j with
    | some f=>match X.P.info? f.type with
      | some ie=>if gH 0 ie.size then (match abH c f.offset with
        | some c'=>K (.c c') s
        | none=>False) else False
      | none=>False
    | none=>False
  | .indexAddr t x i=>nU b s x λc=>nU b s i λq=>match q with
    | .k (.int _ n)=>iC X.P b s t c n λr=>K r s
    | _=>False
  | .index t x i=>nU b s x λc=>nU b s i λq=>match X.P.underlying t,c,q with
    | some .string,.k (.string z),.k (.int _ n)=>0<=n/\n< z.size/\K (.k (.int .u8 ((jj z n).toNat:Int))) s
    | _,_,_=>False
  | .slice t x lo hi none=>nU b s x λc=>wU b s lo λl=>wU b s hi λh=>match intOf l,intOf h with
    | some l,some h=>pC X.P b s t c l h λr=>K r s
    | _,_=>False
  | .slice t x lo hi (some y)=>nU b s x λc=>wU b s lo λl=>wU b s hi λh=>nU b s y λq=>match intOf l,intOf h,q with
    | some l,some h,.k (.int .i64 m)=>H8 X.P t c l h m λr=>K r s
    | _,_,_=>False
  | .sliceToArrayPointer t x=>nU b s x λc=>Kb X.P t c λr=>K r s
  | .build t ps=>match tk b s ps.toList with
    | some l=>wg X.P t l λr=>K r s
    | none=>False
  | .buildSlice t n ps=>match tk b s ps.toList with
    | some l=>tG X b s t n l K
    | none=>False
  | .convert src dst x=>qA b s x λv=>oV X b s src dst v K
  | .makeFunc (.func f) first captured=>if first.isEmpty then (match AG b s captured.toList with
    | some l=>match JZ l with
      | some cs=>K (.c (.fn f cs)) s
      | none=>False
    | none=>False) else False
  | .makeInterface t x=>nU b s x λc=>Qg X.P t c λr=>K r s
  | .typeAssert x _ t true=>nU b s x λc=>J9 X.P t c λr=>K r s
  | .typeAssert x _ t false=>nU b s x λc=>Ka X.P t c λr=>K r s
  | .makeMap t none=>C5 X s t K
  | .lookup t x y c=>nU b s x λmx=>qA b s y λky=>match ky with
    | .v (.c ky)=>(match aeu b s mx with
      | some (l,⟨kt,tR,e,M⟩)=>if c then Jf X s t l kt tR e M ky K else False
      | none=>Ju X b s t mx ky c λr=>K r s)
    | .v (.agg cs)=>if c then False else JY X b s t mx cs K
    | _=>False
  | .mapUpdate t x y z=>nU b s x λmx=>nU b s y λky=>qA b s z λu=>match u with
    | .v v=>(match aeu b s mx with
      | some (l,⟨kt,tR,e,M⟩)=>PL X b s t l kt tR e M ky v λs'=>K .tV s'
      | none=>w8 X b s t mx ky v λs'=>K .tV s')
    | _=>False
  | .range t x=>nU b s x λc=>Ps X b s t c K
  | .next x true=>nU b s x λc=>Zz b s c K
  | .next x false=>nU b s x λc=>ZA X.P b s c K
  | .entry x=>nU b s x λc=>QB X.P b s c λr=>K r s
  | .makeSlice t x y=>nU b s x λc=>nU b s y λd=>vP X s t c d K
  | .mapEntry t x y=>nU b s x λmx=>qA b s y λky=>match ky with
    | .v (.agg cs)=>QP X b s t mx cs K
    | _=>False
  | .entryStore t x y z=>nU b s x λmx=>nU b s y λst=>qA b s z λu=>match u with
    | .v v=>(match mx with
      | .m l=>QO X.P b s t l st v λs'=>K .tV s'
      | _=>False)
    | _=>False
  | .insert t x y z=>nU b s x λmx=>nU b s y λky=>qA b s z λu=>match u with
    | .v v=>w8 X b s t mx ky v λs'=>K .tV s'
    | _=>False
  | .call c=>BT X b s c K
  | _=>False
inductive Ex
 | normal| exit (id:Nat)| ret
def EM (ops:Array Oper) (b:Bs) (s:Ov) (o:Oper) (K:Bool->Ov->Prop):Prop:=match o.guard with
 | none=>K true s
 | some (j,w)=>match (ops[j]?).bind (·.dst) with
  | none=>False
  | some d=>match b.slot s d with
   | some (.v (.c (.k (.bool v))))=>br v (K (true==w) (s.put (some d) (.bool true))) (K (false==w) (s.put (some d) (.bool false)))
   | some (.cC _)=>K false s
   | _=>False
def U7 (X:Vx) (n:Nat) (ops:Array Oper) (b:Bs) (s:Ov) (o:Oper) (K:Ov->Prop):Prop:=
 if (match o.dst with| some d=>gH d n| none=>true) then EM ops b s o λw s=>match w with
  | true=>LW X b s o λv s'=>K (s'.put o.dst v)
  | false=>K (s.put o.dst .tV)
 else False
def aiM (X:Vx) (n:Nat) (ops:Array Oper) (b:Bs):List Oper->Ov->(Ov->Prop)->Prop
 | [],s,K=>K s
 | o::r,s,K=>U7 X n ops b s o λs'=>aiM X n ops b r s' K
def CR (P:Program) (t:TypeId):Bool:=match P.underlying t with
 | some (.int _)| some .string| some .bool| some (.struct _)| some (.array _ _)=>true
 | _=>false
def lE (P:Program) (o:Oper):Bool:=o.dst.isSome&& (match o.op with
 | .move _| .assign _| .pick .. | .unOp .. | .extract .. | .field .. | .load .. | .nilCheck _| .fieldAddr .. | .indexAddr .. | .index .. | .build .. =>true
 | .slice _ _ _ _ none=>true
 | .binOp _ t _ _ _=>CR P t
 | .convert _ dst _=>(match P.underlying dst with
  | some .string| some (.int _)=>true
  | _=>false)
 | .call c=>(match c.callee with
  | .builtin .len=>true
  | _=>false)
 | _=>false)
def jh {α:Type}:List α->(List α->Prop)->Prop
 | [],k=>k []
 | a::l,k=>jh l λl'=>k (a::l')
def JM:List Bool->(List Bool->Prop)->Prop
 | [],k=>k []
 | a::l,k=>JM l λl'=>match a with
  | true=>k (true::l')
  | false=>k (false::l')
def dU:List Bool->Nat->Bool
 | [],_=>false
 | a::_,0=>a
 | _::r,i+1=>dU r i
def ln:List (List Bool)->Nat->List Bool
 | [],_=>[]
 | a::_,0=>a
 | _::r,i+1=>ln r i
def Vk:Nat->List Bool->List Bool
 | 0,[]=>[true]
 | 0,_::r=>true::r
 | k+1,[]=>false::Vk k []
 | k+1,a::r=>a::Vk k r
def orB:List Bool->List Bool->List Bool
 | [],l=>l
 | a::r,[]=>a::r
 | a::r,b::q=>(a|| b)::orB r q
def Vz (acc:List (List Bool)):List Edge->List Bool
 | []=>[]
 | e::r=>match Region.binds .any e with
  | true=>orB (Vk e.on (ln acc e.on)) (Vz acc r)
  | false=>Vz acc r
def YW:List Oper->List (List Bool)->(List (List Bool)->Prop)->Prop
 | [],acc,k=>k acc
 | o::r,acc,k=>JM (Vz acc o.after.toList) λrow=>jh (acc++ [row]) λacc=>YW r acc k
def JU:List Bool->List Bool->Nat
 | p::ps,r::rs=>match r&& !p with
  | true=>JU ps rs+1
  | false=>JU ps rs
 | _,_=>0
def Up (pu:List Bool) (ms:List (List Bool)) (size J:Nat):List Nat:=(bQ size).filter λi=>dU pu i&& Nat.beq (JU pu (ln ms i)) J
def agw (pu:List Bool) (ms:List (List Bool)) (size:Nat):Nat->List Nat->List Nat
 | J,[]=>Up pu ms size J
 | J,n::r=>Up pu ms size J++n::agw pu ms size (J+1) r
def agv (pu:List Bool) (ms:List (List Bool)) (size:Nat):List Nat:=agw pu ms size 0 ((bQ size).filter λi=> !dU pu i)
def aax (ops:Array Oper) (k:Nat):Option Nat:=(ops[k]?).bind (·.dst)
def Bg (pu:List Bool) (ms:List (List Bool)):List Nat->List Nat->Bool
 | _,[]=>true
 | dn,i::r=>dn.all (λj=>dU pu j|| dU (ln ms i) j)&& Bg pu ms (i::dn) r
def isDst (ops:Array Oper) (k t:Nat):Bool:=match aax ops k with
 | some d=>Nat.beq d t
 | none=>false
def aji (ops:Array Oper) (k:Nat):Bool:=match aax ops k with
 | some d=>(bQ k).any λi=>match ops[i]? with
  | some o=>iA d (slotsOf ops o)
  | none=>false
 | none=>false
def vL (P:Program) (ops:Array Oper) (k:Nat):Bool:=match ops[k]? with
 | some o=>lE P o&& !aji ops k
 | none=>false
def B5 (ops:Array Oper) (pu:List Bool) (ms:List (List Bool)):Bool:=(bQ ops.size).all λi=>match ops[i]? with
 | none=>true
 | some o=>(slotsOf ops o).all λt=>(bQ ops.size).all λk=> !isDst ops k t|| (dU (ln ms i) k|| !dU pu k)
def uk (ops:Array Oper) (pu:List Bool) (ms:List (List Bool)):List Nat->Bool
 | []=>true
 | i::r=>(!dU pu i|| match ops[i]? with
  | none=>true
  | some o=>(slotsOf ops o).all λt=> !isDst ops i t&& r.all λk=> !isDst ops k t|| (!dU pu k&& dU (ln ms k) i))&& uk ops pu ms r
def Zk (ops:Array Oper) (pu:List Bool) (ms:List (List Bool)) (ord:List Nat):Bool:=
 nG ord&& ord.all (λi=>gH i ops.size)&& (bQ ops.size).all (λi=>iA i ord)&& Bg pu ms [] ord&& B5 ops pu ms&& uk ops pu ms ord
def MN (b:Bs) (s:Ov) (o:Oper):List Nat:=o.op.operands.toList.flatMap λx=>match fe b s x with
 | some v=>v.labels
 | none=>[]
def vr (b:Bs) (s:Ov) (o:Oper):List Nat:=match o.op with
 | .move _| .assign _=>[]
 | _=>MN b s o
def ad3 (X:Vx) (n:Nat) (ops:Array Oper) (b:Bs) (s:Ov) (o:Oper) (K:Ov->List Nat->Prop):Prop:=
 if (match o.dst with| some d=>gH d n| none=>true) then EM ops b s o λw s=>match w with
  | true=>LW X {f:=s.f++b.f,h:=b.heap s} {f:=[],h:=[],n:=s.n} o λv s'=>match s'.f with
   | []=>K (({f:=s.f,h:=s'.h++s.h,n:=s'.n}:Ov).put o.dst v) (s'.h.map (·.1))
   | _=>False
  | false=>K (s.put o.dst .tV) []
 else False
def BQ (X:Vx) (n:Nat) (ops:Array Oper) (b:Bs) (ms:List (List Bool)) (pu:List Bool):List Nat->List (Nat×List Nat)->Ov->(Ov->Prop)->Prop
 | [],_,s,K=>K s
 | i::r,lv,s,K=>match ops[i]? with
  | none=>False
  | some o=>match dU pu i with
   | true=>U7 X n ops b s o λs'=>BQ X n ops b ms pu r ((i,vr b s o)::lv) s' K
   | false=>ad3 X n ops b s o λs' ks=>jh (lv.filter λp=> !dU (ln ms i) p.1) λlv=>if lv.all (λp=>p.2.all λl=> !iA l ks) then BQ X n ops b ms pu r lv s' K else False
def VN (ms:List (List Bool)) (np dn:List Nat) (i:Nat):Bool:=np.all λj=> !dU (ln ms i) j|| iA j dn
def Kf (pu:List Bool) (ms:List (List Bool)) (np:List Nat) (size:Nat):Nat->List Nat->List (List Nat)
 | 0,_=>[[]]
 | f+1,dn=>
  let ps:=(bQ size).filter λi=>dU pu i&& (!iA i dn&& VN ms np dn i)
  match np.filter λi=> !iA i dn&& VN ms np dn i with
  | []=>[ps]
  | ns=>ns.flatMap λi=>(Kf pu ms np size f (dn++ps++ [i])).map λr=>ps++i::r
def rq (pu:List Bool):List Nat->Nat->Bool
 | [],_=>false
 | x::r,i=>Nat.beq x i|| (dU pu x&& rq pu r i)
def BX:List Nat->List Nat->Option (List Nat)
 | [],r=>some r
 | _::_,[]=>none
 | a::l,b::r=>bif Nat.beq a b then BX l r else none
def xw (pu:List Bool) (ms:List (List Bool)) (np:List Nat) (os:List (List Nat)):List Nat->List Nat->Bool
 | _,[]=>true
 | dn,x::r=>((x::r).all λi=>rq pu (x::r) i|| (!VN ms np dn i|| os.any λo=>match BX dn o with
   | some q=>rq pu q i
   | none=>false))&& xw pu ms np os (dn++ [x]) r
def Q3 (ops:Array Oper) (pu:List Bool) (ms:List (List Bool)) (np:List Nat) (os:List (List Nat)):Bool:=
 B5 ops pu ms&& (!os.isEmpty&& os.all λord=>nG ord&& (ord.all (λi=>gH i ops.size)&& ((bQ ops.size).all (λi=>iA i ord)&& (uk ops pu ms ord&& xw pu ms np os [] ord))))
def vW:List (List Nat)->List Nat
 | []=>[]
 | []::r=>vW r
 | (x::_)::r=>match iA x (vW r) with
  | true=>vW r
  | false=>x::vW r
def sm (i:Nat):List (List Nat)->List (List Nat)
 | []=>[]
 | []::r=>sm i r
 | (x::q)::r=>match Nat.beq x i with
  | true=>q::sm i r
  | false=>sm i r
def akW:List Nat->(Nat->Prop)->Prop
 | [],_=>True
 | [x],p=>p x
 | x::y::r,p=>p x/\akW (y::r) p
def rp:List (List Nat)->(List (List Nat)->Prop)->Prop
 | [],k=>k []
 | a::l,k=>jh a λa'=>rp l λl'=>k (a'::l')
def F7 (X:Vx) (n:Nat) (ops:Array Oper) (b:Bs) (ms:List (List Bool)) (pu:List Bool):Nat->List (List Nat)->List (Nat×List Nat)->Ov->(Ov->Prop)->Prop
 | 0,_,_,s,K=>K s
 | f+1,os,lv,s,K=>jh (vW os) λhs=>akW hs λi=>match ops[i]? with
  | none=>False
  | some o=>match dU pu i with
   | true=>U7 X n ops b s o λs'=>rp (sm i os) λos=>F7 X n ops b ms pu f os ((i,vr b s o)::lv) s' K
   | false=>ad3 X n ops b s o λs' ks=>jh (lv.filter λp=> !dU (ln ms i) p.1) λlv=>if lv.all (λp=>p.2.all λl=> !iA l ks) then rp (sm i os) λos=>F7 X n ops b ms pu f os lv s' K else False
def wB (X:Vx) (n:Nat) (ops:Array Oper) (draw:Bool) (b:Bs) (s:Ov) (K:Ov->Prop):Prop:=
 if draw then
  if X.P.follows .mixedOrders&& JQ ops&& QE ops n then
   JM ((bQ ops.size).map (vL X.P ops)) λpu=>YW ops.toList [] λms=>jh (agv pu ms ops.size) λord=>
    if Zk ops pu ms ord then BQ X n ops b ms pu ord [] s K
    else jh ((bQ ops.size).filter λi=> !dU pu i) λnp=>rp (Kf pu ms np ops.size ops.size []) λos=>
     if Q3 ops pu ms np os then F7 X n ops b ms pu ops.size os [] s K else False
  else False
 else aiM X n ops b ops.toList s K
inductive Xm
 | iter
 | ch (kt tI:TypeId)
 | pm (kt tR:TypeId) (e:Ty)
 | PN (kt:TypeId) (l:Nat) (e:Ty)
@[reducible] def Xm.den:Xm->Type
 | .iter=>ByteArray×Nat
 | .ch _ _=>uL
 | .pm _ _ e=>List (Int×Nat×e.den)
 | .PN _ _ e=>Hp×Nat×List (Int×Nat×e.den)×Option (Int×Nat×e.den)
def Xm.mk:(t:Xm)->t.den->AbK
 | .iter,x=>.iter x.1 x.2
 | .ch kt tI,x=>.ch kt tI x
 | .pm kt tR e,x=>.pm kt tR e x
 | .PN kt l e,x=>.PN kt l e x.1 x.2.1 x.2.2.1 x.2.2.2
def akV {e':Ty} (e:Ty) (x:List (Int×Nat×e'.den)):Option (List (Int×Nat×e.den)):=if h:e'.beq e=true then some (Ty.eq_of_beq h▸x) else none
def abD {e':Ty} (e:Ty) (x:Hp×Nat×List (Int×Nat×e'.den)×Option (Int×Nat×e'.den)):Option (Hp×Nat×List (Int×Nat×e.den)×Option (Int×Nat×e.den)):=if h:e'.beq e=true then some (Ty.eq_of_beq h▸x) else none
def Xm.rd:(t:Xm)->AbK->Option t.den
 | .iter,k=>match k with
  | .iter z p=>some (z,p)
  | _=>none
 | .ch kt tI,k=>match k with
  | .ch a b M=>if Nat.beq a kt&& Nat.beq b tI then some M else none
  | _=>none
 | .pm kt tR e,k=>match k with
  | .pm a b e' M=>if Nat.beq a kt&& Nat.beq b tR then akV e M else none
  | _=>none
 | .PN kt l e,k=>match k with
  | .PN kt' l' e' hz mb left cur=>if Nat.beq kt' kt&& Nat.beq l' l then abD e (hz,mb,left,cur) else none
  | _=>none
theorem Xm.ago:∀ {t:Xm} {k:AbK} {x:t.den},t.rd k=some x->k=t.mk x:=by
 intro t k x h;cases t<;>cases k<;>first| (have h':none=some x:=h;cases h';done)| skip
 .obtain rfl:=aj h;rfl
 .rename_i kt tI a b M;have h:(if Nat.beq a kt&& Nat.beq b tI then some M else none)=some x:=h
  split at h
  .rename_i hc;simp only [ao] at hc;obtain rfl:=aj h;rw [ai hc.1,ai hc.2];rfl
  .cases h
 .rename_i kt tR e a b e' M;have h:(if Nat.beq a kt&& Nat.beq b tR then akV e M else none)=some x:=h
  split at h
  .rename_i hc;simp only [ao] at hc;obtain rfl:=ai hc.1;obtain rfl:=ai hc.2;unfold akV at h;split at h
   .rename_i hq;have Xg:=Ty.eq_of_beq hq;subst Xg;obtain rfl:=aj h;rfl
   .cases h
  .cases h
 .rename_i kt l e kt' l' e' hz mb left cur;have h:(if Nat.beq kt' kt&& Nat.beq l' l then abD e (hz,mb,left,cur) else none)=some x:=h
  split at h
  .rename_i hc;simp only [ao] at hc;obtain rfl:=ai hc.1;obtain rfl:=ai hc.2;unfold abD at h;split at h
   .rename_i hq;have Xg:=Ty.eq_of_beq hq;subst Xg;obtain rfl:=aj h;rfl
   .cases h
  .cases h
mutual
def Cl.same:Cl->Cl->Bool
 | .p l x,c=>match c with
  | .p l' x'=>Nat.beq l l'&& Nat.beq x x'
  | _=>false
 | .m l,c=>match c with
  | .m l'=>Nat.beq l l'
  | _=>false
 | .Ee t x,c=>match c with
  | .Ee t' x'=>Nat.beq t t'&& Cl.same x x'
  | _=>false
 | .fn f l,c=>match c with
  | .fn f' l'=>Nat.beq f f'&& Cl.Ml l l'
  | _=>false
 | _,_=>false
def Cl.Ml:List Cl->List Cl->Bool
 | [],c=>match c with
  | []=>true
  | _=>false
 | a::l,c=>match c with
  | b::r=>Cl.same a b&& Cl.Ml l r
  | _=>false
end
mutual
theorem Cl.Ig:∀ {a b:Cl},Cl.same a b=true->a=b
 | .p l x,c,h=>by
  cases c<;>simp only [Cl.same] at h<;>first| grind| skip
  simp_all
 | .m l,c,h=>by
  cases c<;>simp only [Cl.same] at h<;>first| grind| skip
  simp_all
 | .Ee t x,c,h=>by
  cases c<;>simp only [Cl.same] at h<;>first| grind| skip
  simp only [ao] at h;rw [ai h.1,Cl.Ig h.2]
 | .fn f l,c,h=>by
  cases c<;>simp only [Cl.same] at h<;>first| grind| skip
  simp only [ao] at h;rw [ai h.1,Cl.Mk h.2]
 | .k _,_,h=>by trivial
 | .d _ _,_,h=>by trivial
 | .de _ _ _ _,_,h=>by trivial
 | .o _,_,h=>by trivial
 | .os _ _ _ _,_,h=>by trivial
 | .oe _ _ _ _,_,h=>by trivial
 | .sc _ _ _,_,h=>by trivial
 | .kl _ _,_,h=>by trivial
 | .Km,_,h=>by trivial
theorem Cl.Mk:∀ {a b:List Cl},Cl.Ml a b=true->a=b
 | [],c,h=>by
  grind [Cl.Ml]
 | a::l,c,h=>by
  cases c with
  | nil=>trivial
  | cons b r=>
   simp only [Cl.Ml,ao] at h;rw [Cl.Ig h.1,Cl.Mk h.2]
end
inductive Sh
 | int (k:IntKind)| bool| str
 | d (e:Ty)
 | own (t:TypeId) (e:Ty)
 | p (l off:Nat)
 | m (l:Nat)
 | pa (t:Xm)
 | JS (c:Cl)
 | dp (e:Ty)
@[reducible] def Sh.den:Sh->Type
 | .int _=>Int
 | .bool=>Bool
 | .str=>ByteArray
 | .d e=>List e.den
 | .own _ e=>List e.den
 | .p .. | .m _=>Unit
 | .pa t=>t.den
 | .JS _=>Unit
 | .dp e=>List e.den
def Sh.mk:(h:Sh)->h.den->Nat->Cl×List HO
 | .int k,n,_=>(.k (.int k n),[])
 | .bool,v,_=>(.k (.bool v),[])
 | .str,z,_=>(.k (.string z),[])
 | .d e,x,_=>(.d e x,[])
 | .own t e,x,n=>(.o n,[.sl t e x])
 | .p l off,_,_=>(.p l off,[])
 | .m l,_,_=>(.m l,[])
 | .pa t,x,n=>(.p n 0,[.ab (t.mk x)])
 | .JS c,_,_=>(c,[])
 | .dp e,x,_=>(.de e x 0 0,[])
def Sh.rd (b:Bs) (s:Ov):(h:Sh)->Cl->Option (h.den×List Nat)
 | .int k,c=>match c with
  | .k (.int k' n)=>if IntKind.beq k' k then some (n,[]) else none
  | _=>none
 | .bool,c=>match c with
  | .k (.bool v)=>some (v,[])
  | _=>none
 | .str,c=>match c with
  | .k (.string z)=>some (z,[])
  | _=>none
 | .d e,c=>match c with
  | .d _ x=>match zw e x with
   | some y=>some (y,[])
   | none=>none
  | .k (.slice none 0 0)=>some ([],[])
  | .o l=>match b.obj s l with
   | .held _ _ x=>match zw e x with
    | some y=>some (y,[])
    | none=>none
   | _=>none
  | _=>none
 | .own t e,c=>match c with
  | .k (.slice none 0 0)=>some ([],[])
  | .o l=>match b.obj s l with
   | .sl t' _ x=>if Nat.beq t' t then (match zw e x with
    | some y=>some (y,[l])
    | none=>none) else none
   | _=>none
  | _=>none
 | .p l off,c=>match c with
  | .p l' ajl=>if Nat.beq l' l&& Nat.beq ajl off&& gH l b.h.length then some ((),[]) else none
  | _=>none
 | .m l,c=>match c with
  | .m l'=>if Nat.beq l' l&& gH l b.h.length then some ((),[]) else none
  | _=>none
 | .pa t,c=>match c with
  | .p l 0=>match b.obj s l with
   | .ab k=>match t.rd k with
    | some x=>some (x,[l])
    | none=>none
   | _=>none
  | _=>none
 | .JS c0,c=>if Cl.same c c0&& c0.labels.all (λl=>gH l b.h.length) then some ((),[]) else none
 | .dp e,c=>match c with
  | .de _ x i off=>if decide (i=0)&& Nat.beq off 0 then (match zw e x with
   | some y=>some (y,[])
   | none=>none) else none
  | _=>none
inductive ON
 | cells (t:TypeId) (cs:List Sh)
 | sl (t:TypeId) (e:Ty)
 | map (t:TypeId) (k:Kk) (e:Ty)
 | ab (t:Xm)
 | abs
@[reducible] def OK.den:List Sh->Type
 | []=>Unit
 | h::r=>h.den×OK.den r
def OK.mk:(l:List Sh)->OK.den l->Nat->List Cl×List HO
 | [],_,_=>([],[])
 | h::r,x,n=>((h.mk x.1 n).1::(OK.mk r x.2 (n+(h.mk x.1 n).2.length)).1,(h.mk x.1 n).2++(OK.mk r x.2 (n+(h.mk x.1 n).2.length)).2)
def OK.rd (b:Bs) (s:Ov):(l:List Sh)->List Cl->Option (OK.den l×List Nat)
 | [],[]=>some ((),[])
 | h::r,c::cs=>match h.rd b s c with
  | some (x,u)=>match OK.rd b s r cs with
   | some (y,v)=>some ((x,y),u++v)
   | none=>none
  | none=>none
 | _,_=>none
@[reducible] def ON.den:ON->Type
 | .cells _ cs=>OK.den cs
 | .sl _ e=>List e.den
 | .map _ k e=>List (k.den×e.den)
 | .ab t=>t.den
 | .abs=>Value->Atom
def ON.mk:(h:ON)->h.den->Nat->HO×List HO
 | .cells t cs,x,n=>(.cells t (OK.mk cs x n).1,(OK.mk cs x n).2)
 | .sl t e,x,_=>(.sl t e x,[])
 | .map t k e,x,_=>(.map t k e x,[])
 | .ab t,x,_=>(.ab (t.mk x),[])
 | .abs,x,_=>(.abs x,[])
def ON.rd (b:Bs) (s:Ov):(h:ON)->HO->Option (h.den×List Nat)
 | .cells t cs,o=>match o with
  | .cells t' c=>if Nat.beq t' t then OK.rd b s cs c else none
  | _=>none
 | .sl t e,o=>match o with
  | .sl t' _ x=>if Nat.beq t' t then (match zw e x with
   | some y=>some (y,[])
   | none=>none) else none
  | _=>none
 | .map t k e,o=>match o with
  | .map t' _ _ x=>if Nat.beq t' t then (match asM k e x with
   | some y=>some (y,[])
   | none=>none) else none
  | _=>none
 | .ab t,o=>match o with
  | .ab k=>match t.rd k with
   | some x=>some (x,[])
   | none=>none
  | _=>none
 | .abs,o=>match o with
  | .abs a=>some (a,[])
  | _=>none
structure xI where
 jL:List (Nat×Sh)
 yR:List (Nat×ON)
@[reducible] def sq:List (Nat×Sh)->Type
 | []=>Unit
 | p::r=>p.2.den×sq r
@[reducible] def wV:List (Nat×ON)->Type
 | []=>Unit
 | p::r=>p.2.den×wV r
@[reducible] def xI.den (a:xI):Type:=sq a.jL×wV a.yR
def jF:(l:List (Nat×Sh))->sq l->Nat->Ay×List HO
 | [],_,_=>([],[])
 | p::r,x,n=>((p.1,.c (p.2.mk x.1 n).1)::(jF r x.2 (n+(p.2.mk x.1 n).2.length)).1,(p.2.mk x.1 n).2++(jF r x.2 (n+(p.2.mk x.1 n).2.length)).2)
def mq:(l:List (Nat×ON))->wV l->Nat->List (Nat×HO)×List HO
 | [],_,_=>([],[])
 | p::r,x,n=>((p.1,(p.2.mk x.1 n).1)::(mq r x.2 (n+(p.2.mk x.1 n).2.length)).1,(p.2.mk x.1 n).2++(mq r x.2 (n+(p.2.mk x.1 n).2.length)).2)
def AV (b:Bs) (s:Ov):(l:List (Nat×Sh))->Option (sq l×List Nat)
 | []=>some ((),[])
 | p::r=>match b.slot s p.1 with
  | some (.v (.c c))=>match p.2.rd b s c with
   | some (x,u)=>match AV b s r with
    | some (y,v)=>some ((x,y),u++v)
    | none=>none
   | none=>none
  | _=>none
def Jj (b:Bs) (s:Ov):(l:List (Nat×ON))->Option (wV l×List Nat)
 | []=>some ((),[])
 | p::r=>match p.2.rd b s (b.obj s p.1) with
  | some (x,u)=>match Jj b s r with
   | some (y,v)=>some ((x,y),u++v)
   | none=>none
  | none=>none
inductive aK {ι:Type} (B:ι->(ι->Prop)->Prop) (i:ι):Prop
 | intro (I:ι->Prop) (μ:ι->Nat) (h0:I i) (h:∀ j,I j->B j λj'=>I j'/\μ j'< μ j)
abbrev ah7 (ι:Type) (B:ι->(ι->Prop)->Prop) (i:ι):Prop:=aK B i
inductive cK {ι:Type} (A:(ι->Prop)->Prop) (B:ι->Prop):Prop
 | intro (J:ι->Prop) (hA:A J) (hB:∀ i,J i->B i)
def nR:Code->List Nat
 | .region _ ops _=>ops.toList.filterMap (·.dst)
 | .seq a b=>nR a++nR b
 | .cond _ a b=>nR a++nR b
 | .block _ c| .loop c| .scope c=>nR c
 | _=>[]
def pM:Code->Nat
 | .region id _ _=>id+1
 | .seq a b=>let k:=pM a;bif Nat.beq k 0 then pM b else k
 | .cond _ a b=>let k:=pM a;bif Nat.beq k 0 then pM b else k
 | .block _ c| .loop c| .scope c=>pM c
 | _=>0
structure EG where
 loops:List (Nat×xI)
 ZO:List (Nat×xI)
def Nj:List (Nat×xI)->Nat->Option xI
 | [],_=>none
 | (k,v)::s,t=>bif Nat.beq k t then some v else Nj s t
def HS:Nat->List HO->List (Nat×HO)
 | _,[]=>[]
 | n,o::r=>(n,o)::HS (n+1) r
def pS (ks:List Nat) (b:Bs) (s:Ov):Bs:= {f:=(s.f++b.f).filter λp=> !iA p.1 ks,h:=b.heap s}
def uO (ks:List Nat) (b:Bs) (s:Ov):Ov:= {f:=(s.f++b.f).filter λp=>iA p.1 ks,h:=[],n:=s.n}
def ph (ks:List Nat) (s s':Ov):Ov:= {f:=s'.f++(ks.map (λk=>(k,SV.any))++s.f),h:=s'.h++s.h,n:=s'.n}
def Zi (b:Bs) (s:Ov):Sh->Cl->List Nat
 | .own _ _,.o l=>match b.obj s l with
  | .sl .. =>[l]
  | _=>[]
 | .pa _,.p l 0=>match b.obj s l with
  | .ab _=>[l]
  | _=>[]
 | _,_=>[]
def SY (b:Bs) (s:Ov):List Sh->List Cl->List Nat
 | h::r,c::cs=>Zi b s h c++SY b s r cs
 | _,_=>[]
def CT (a:xI) (b:Bs) (s:Ov):List Nat:=
 (a.jL.flatMap λp=>match b.slot s p.1 with
  | some (.v (.c c))=>Zi b s p.2 c
  | _=>[])++a.yR.flatMap λp=>match p.2,b.obj s p.1 with
  | .cells _ l,.cells _ cs=>SY b s l cs
  | _,_=>[]
def oH (a:xI) (n0:Nat) (i:a.den):List HO:=(jF a.jL i.1 n0).2++(mq a.yR i.2 (n0+(jF a.jL i.1 n0).2.length)).2
def lY (a:xI) (us:List Nat) (n0:Nat) (i:a.den):Ov:=
 {f:=(jF a.jL i.1 n0).1,h:=HS n0 (oH a n0 i)++((mq a.yR i.2 (n0+(jF a.jL i.1 n0).2.length)).1++us.map λl=>(l,HO.gone)),n:=n0+(oH a n0 i).length}
def agy (a:xI) (ks:List Nat) (n0:Nat) (us0:List Nat) (s':Ov) (us:List Nat):Bool:=
 nG (us++a.yR.map (·.1))&& us.all (λl=>Nat.ble n0 l|| iA l us0)&& (a.yR.map (·.1)).all (λl=>gH l n0&& !iA l us0)&& s'.f.all (λp=>iA p.1 ks)&& s'.h.all (λp=>Nat.ble n0 p.1|| iA p.1 (a.yR.map (·.1))|| iA p.1 us0)
def P1 (a:xI) (ks:List Nat) (n0:Nat) (us0:List Nat) (b:Bs) (s':Ov) (k:a.den->Prop):Prop:=match AV b s' a.jL,Jj b s' a.yR with
 | some (x,u),some (y,v)=>if agy a ks n0 us0 s' (u++v) then k (x,y) else False
 | _,_=>False
def Ov.force (s:Ov) (K:Ov->Prop):Prop:=jh s.f λf=>jh s.h λh=>K {f:=f,h:=h,n:=s.n}
def Bs.force (b:Bs) (K:Bs->Prop):Prop:=jh b.f λf=>jh b.h λh=>K {f:=f,h:=h}
def Ov.told (s:Ov) (c:Operand) (v:Bool):Ov:=match c with
 | .tmp t=>s.put (some t) (.bool v)
 | _=>s
def aiO (body:Ov->(Ex->Ov->Prop)->Prop) (Q:Ex->Ov->Prop):Nat->Ov->Prop
 | 0,_=>False
 | k+1,s=>s.force λs=>body s λe s'=>match e with
  | .normal=>aiO body Q k s'
  | e=>Q e s'
def lU (X:Vx) (n:Nat) (an:EG):Code->Bs->Ov->(Ex->Ov->Prop)->Prop
 | .skip,_,s,Q=>Q .normal s
 | .region _ ops draw,b,s,Q=>s.force λs=>wB X n ops draw b s λs'=>Q .normal s'
 | .seq x y,b,s,Q=>match Nj an.ZO (pM y) with
  | none=>lU X n an x b s λe s'=>match e with
   | .normal=>lU X n an y b s' Q
   | e=>Q e s'
  | some a=>
   s.force λs=>jh (nR x++a.jL.map (·.1)) λks=>(pS ks b s).force λb1=>
   let us0:=CT a b s
   cK (ι:=a.den) (λk=>lU X n an x b1 (uO ks b s) λe s'=>match e with
     | .normal=>P1 a ks s.n us0 b1 s' k
     | e=>Q e (ph ks s s'))
    (λi=>lU X n an y b1 (lY a us0 s.n i) λe s'=>Q e (ph ks s s'))
 | .cond c x y,b,s,Q=>match fe b s c with
  | some (.v (.c (.k (.bool v))))=>br v (lU X n an x b (s.told c true) Q) (lU X n an y b (s.told c false) Q)
  | _=>False
 | .block id c,b,s,Q=>lU X n an c b s λe s'=>match e with
  | .exit j=>if Nat.beq j id then Q .normal s' else Q (.exit j) s'
  | e=>Q e s'
 | .loop c,b,s,Q=>match agz X.unr (pM c),Nj an.loops (pM c) with
  | some k,_=>aiO (λs q=>lU X n an c b s q) Q k s
  | none,none=>False
  | none,some a=>
   (Dv X.cloH b s).force λs=>jh (nR c++a.jL.map (·.1)) λks=>(pS ks b s).force λb1=>
   let us0:=CT a b s
   P1 a ks s.n us0 b1 (uO ks b s) λi0=>
    aK (ι:=a.den) (λi again=>lU X n an c b1 (lY a us0 s.n i) λe s'=>match e with
     | .normal=>P1 a ks s.n us0 b1 s' again
     | e=>Q e (aaF X.sfh b (ph ks s s'))) i0
 | .exit id,_,s,Q=>Q (.exit id) s
 | .ret,_,s,Q=>Q .ret s
 | _,_,_,_=>False
def lA (P:Program) (b:Bs) (s:Ov):List ResultVar->Option (List S1)
 | []=>some []
 | .tmp t::r=>match b.slot s t with
  | some (.v v)=>match lA P b s r with
   | some l=>some (v::l)
   | none=>none
  | _=>none
 | .cell t ty::r=>match b.slot s t with
  | some (.v (.c (.p l off)))=>match b.obj s l with
   | .cells _ cs=>match qb P ty cs off with
    | some v=>match lA P b s r with
     | some q=>some (v::q)
     | none=>none
    | none=>none
   | _=>none
  | _=>none
def pack:List S1->SV
 | [v]=>.v v
 | l=>.cC l
def akd (P:Program) (b:Bs) (s:Ov) (rs:List ResultVar) (k:SV->Prop):Prop:=match rs with
 | [.tmp t]=>(match b.slot s t with
  | some (.arr q l)=>k (.arr q l)
  | _=>match lA P b s [.tmp t] with
   | some l=>k (pack l)
   | none=>False)
 | [.cell t ty]=>(match b.slot s t with
  | some (.v (.c c))=>tn P b s ty c k
  | _=>False)
 | rs=>match lA P b s rs with
  | some l=>k (pack l)
  | none=>False
def agi (P:Program) (fn:Func) (n0:Nat) (b:Bs) (s:Ov) (Q:SV->List HO->Prop):Prop:=akd P b s fn.results.toList λr=>
  jh (bQ n0++(sB (b.obj s) 1000 (r.labels++(bQ n0).flatMap λi=>(b.obj s i).labels) []).filter λl=>Nat.ble n0 l) λls=>
  if nG ls&& ls.all (λl=>gH l s.n) then Q (r.fj (iD ls)) (ls.map λl=>(b.obj s l).fj (iD ls)) else False
def ad6 (P:Program) (c:Bool) (fn:Func) (n0:Nat) (b:Bs) (s:Ov) (Q:SV->List HO->Prop):Prop:=agi P fn n0 b (Dv c b s) Q
def Nc:Code->Bool
 | .rangeFunc .. =>false
 | .seq x y=>Nc x&& Nc y
 | .cond _ x y=>Nc x&& Nc y
 | .block _ c| .loop c| .scope c=>Nc c
 | _=>true
def Yw (X:Vx) (n:Nat) (an:EG) (p:Nat) (assign body:Code) (e:Ty) (xs:List e.den) (m:Int) (a:xI) (b:Bs) (s:Ov) (Q:Ov->Prop):Prop:=
 s.force λs=>(pS [] b s).force λb1=>
 let us0:=CT a b s
 (1<=m/\m<=1000000000)/\xs.length<=1000000000000/\P1 a [] s.n us0 b1 (uO [] b s) λi0=>
  aK (ι:=Nat×a.den) (λi again=>br (gH (i.1*m.toNat) xs.length)
   (lU X n an assign b1 ((lY a us0 s.n i.2).put (some p) (.c (.d e ((xs.drop (i.1*m.toNat)).take m.toNat)))) λx s2=>match x with
    | .normal=>lU X n an body b1 s2 λx s3=>match x with
     | .normal=>P1 a [] s.n us0 b1 {s3 with f:=[]} λj=>again (i.1+1,j)
     | _=>False
    | _=>False)
   (Q (ph [] s (lY a us0 s.n i.2)))) (0,i0)
def HX (X:Vx) (n:Nat) (an:EG) (t p:Nat) (assign body:Code) (b:Bs) (s:Ov) (Q:Ov->Prop):Prop:=match b.slot s t with
 | some (.v (.c (.fn f [.p l1 0,.p l2 0])))=>(match GN X.chk f,b.obj s l1,b.obj s l2,Nj an.loops (pM assign) with
  | some e,.cells _ [.d e' xs'],.cells _ [.k (.int .i64 m)],some a=>(match zw e xs',a.jL with
   | some xs,[]=>if !Nat.beq l1 l2&& (Nc assign&& Nc body&& (gH p n&& rk X.P f)) then Yw X n an p assign body e xs m a b ((s.dR l1 .gone).dR l2 .gone) Q else False
   | _,_=>False)
  | _,_,_,_=>False)
 | _=>False
def ot (X:Vx) (n:Nat) (an:EG) (c:Code) (b:Bs) (s:Ov) (Q:Ex->Ov->Prop):Prop:=match Nc c with
 | true=>lU X n an c b s Q
 | false=>match c with
  | .seq x y=>(match Nj an.ZO (pM y) with
   | none=>ot X n an x b s λe s'=>match e with
    | .normal=>ot X n an y b s' Q
    | e=>Q e s'
   | some _=>False)
  | .block id c=>ot X n an c b s λe s'=>match e with
   | .exit j=>if Nat.beq j id then Q .normal s' else Q (.exit j) s'
   | e=>Q e s'
  | .rangeFunc g ps assign body=>(match g,ps.toList with
   | .tmp t,[p]=>HX X n an t p assign body b s λs'=>Q .normal s'
   | _,_=>False)
  | _=>False
def oz:Nat->List SV->Ay
 | _,[]=>[]
 | k,v::r=>(k,v)::oz (k+1) r
def ad4 (X:Vx) (an:EG) (fn:Func) (args:List SV) (H:List HO) (Q:SV->List HO->Prop):Prop:=match fn.body with
 | none=>False
 | some c=>if Nat.ble args.length fn.ntmps then
   Qv args (ot X fn.ntmps an c {f:=oz 0 args,h:=H} {f:=[],h:=[],n:=H.length} λe s=>match e with
    | .normal| .ret=>ad6 X.P X.clo fn H.length {f:=oz 0 args,h:=H} s Q
    | .exit _=>False)
  else False

theorem dc {c:Bool} {p:Prop} (h:if c=true then p else False):c=true/\p:=by
 grind
section
variable {b:Bs} {s:Ov}
theorem dW:(b.heap s).length=s.n:=by simp [Bs.heap]
theorem eL {l:Nat} (h:l< s.n):(b.heap s)[l]?=some (b.obj s l):=by
 grind [Bs.heap]
theorem jr {l k:Nat} {o:HO}:b.obj (s.dR l o) k=if l=k then o else b.obj s k:=by
 unfold Bs.obj Ov.dR;simp only [gF];by_cases e:l=k
 .simp_all
 grind [jk]
theorem jx {l:Nat} {o:HO} (h:l< s.n):b.heap (s.dR l o)=(b.heap s).set l o:=by
 apply List.ext_getElem?;intro k;by_cases hk:k< s.n
 .rw [eL (s:=s.dR l o) hk,jr]
  grind [dW,eL]
 .have h1:(b.heap (s.dR l o))[k]?=none:=gU (by rw [dW];show s.n<=k;omega)
  grind [dW]
theorem ue {k:Nat} {o:HO}:b.obj (s.new o) k=if s.n=k then o else b.obj s k:=by
 unfold Bs.obj Ov.new;simp only [gF];by_cases e:s.n=k
 .simp_all
 grind [jk]
theorem tA {o:HO}:b.heap (s.new o)=b.heap s++ [o]:=by
 apply List.ext_getElem?;intro k;by_cases hk:k< s.n;rw [bF (by rw [dW];exact hk),eL hk,eL (s:=s.new o) (by show k< s.n+1;omega),ue,if_neg (by omega)]
 .rw [bD (by rw [dW];omega),dW];by_cases e:s.n=k
  .subst e;rw [eL (s:=s.new o) (by show s.n< s.n+1;omega),ue,if_pos rfl];simp
  .rw [gU (by rw [dW];show s.n+1<=k;omega),gU (by simp;omega)]
end

structure df (n:Nat) (W:cV) (F:List Atom) (b:Bs) (E:Env) (g w:World) (s:Ov) (a:Act):Prop where
 size:a.tmps.size=n
 defers:a.defers=W.ds
 fr:∀ t v,b.slot s t=some v->dd E g v (a.tmps.getD t undef)
 sat:Sat W E g w (b.heap s) F
 top:∀ l,s.n<=l->b.obj s l= .gone
section
variable {P:Program} {n:Nat} {W:cV} {F:List Atom} {b:Bs} {E E':Env} {g g' w w':World} {s s':Ov} {a:Act}
theorem df.len (S:df n W F b E g w s a):E.length=s.n:=by rw [S.sat.len,dW]
theorem df.lt (S:df n W F b E g w s a) {l:Nat} {v:Value} (h:E[l]?=some v):l< s.n:=by
 have:=(aw.1 h).1;rw [S.len] at this;omega
theorem df.m (S:df n W F b E g w s a):bt g w:=S.sat.m
theorem df.le (S:df n W F b E g w s a) (l:Le w w'):df n W F b E g w' s a:=⟨S.size,S.defers,S.fr,S.sat.le l,S.top⟩
theorem df.pick (S:df n W F b E g w s a) {l:Nat} {v:Value} (h:E[l]?=some v):SL W g w (cF E l (b.obj s l)::dJ (a8 E 0 (b.heap s)++F) l):=S.sat.pick (eL (S.lt h))
theorem df.back (S:df n W F b E g w s a) {l:Nat} {v:Value} (h:E[l]?=some v) (o':HO) (m:bt g g') (H:SL W g' w' (cF E l o'::dJ (a8 E 0 (b.heap s)++F) l)):df n W F b E g' w' (s.dR l o') a:=by
 have hl:=S.lt h;refine ⟨S.size,S.defers,λt v hv=>(S.fr t v hv).mono (bu.refl E) m,?_,λk hk=>?_⟩
 .rw [jx hl];exact Sat.back (o:=b.obj s l) o' S.sat.len (eL hl) H
 .rw [jr,if_neg (by have:s.n<=k:=hk;omega)];exact S.top k hk
theorem df.new (S:df n W F b E g w s a) {o:HO} {v:Value} (m:bt g g') (H:SL W g' w' (cF (E++ [v]) s.n o::(a8 E 0 (b.heap s)++F))):df n W F b (E++ [v]) g' w' (s.new o) a:=by
 refine ⟨S.size,S.defers,λt u hu=>(S.fr t u hu).mono (bu.app E [v]) m,?_,λk hk=>?_⟩
 .rw [tA];refine Sat.push S.sat.len ?_
  grind [dW]
 .rw [ue,if_neg (by have:s.n+1<=k:=hk;omega)];exact S.top k (by have:s.n+1<=k:=hk;omega)
theorem df.move (S:df n W F b E g w s a) {l:Nat} {v u:Value} {o2:HO} (h:E[l]?=some u) (m:bt g g') (H:SL W g' w' (cF (E++ [v]) s.n o2::dJ (a8 E 0 (b.heap s)++F) l)):df n W F b (E++ [v]) g' w' ((s.dR l .gone).new o2) a:=by
 have hl:=S.lt h;refine ⟨S.size,S.defers,λt u hu=>(S.fr t u hu).mono (bu.app E [v]) m,?_,λk hk=>?_⟩
 .rw [tA,jx hl];refine Sat.move (o:=b.obj s l) S.sat.len (eL hl) ?_
  grind [dW]
 .have AK:s.n+1<=k:=hk;rw [ue,if_neg (by show ¬s.n=k;omega),jr,if_neg (by omega)];exact S.top k (by omega)
theorem Zs:∀ {v:Value},okB v=true->okV v
 | .int k n,h=>oO.2 h
 | .string s,h=>by
  have h':decide (s.size<=maxLen)=true:=h
  grind [okV]
 | .bool _,_| .float ..,_| .complex ..,_| .pointer _,_| .slice ..,_| .map _,_| .chan _,_| .func ..,_| .nilFunc,_| .iface ..,_| .nilIface,_=>rfl
 | .agg _,h=>h
 | .tuple _,h=>h
theorem kY:∀ {us:List Value} {l:List Cl},uz us=some l->bz E g l us
 | [],l,h=>by
  obtain rfl: []=l:=aj h;exact bz.nil
 | v::r,l,h=>by
  unfold uz at h;split at h
  .rename_i hv;split at h
   .rename_i q hq;obtain rfl: .k v::q=l:=aj h;exact bz.cons ⟨rfl,Zs hv⟩ (kY hq)
   .cases h
  .cases h
theorem Hg {v:Value} {sv:SV} (h:JW v=some sv):dd E g sv v:=by
 unfold JW at h;split at h
 .rename_i cs;split at h
  .rename_i l hl;obtain rfl:SV.v (.agg l)=sv:=aj h;exact ⟨cs.toList,kY hl,by simp⟩
  grind
 .split at h
  .rename_i hk;obtain rfl:SV.k v=sv:=aj h;exact ⟨rfl,Zs hk⟩
  grind
theorem df.fe (S:df n W F b E g w s a) {x:Operand} {v:SV} (h:Lm.fe b s x=some v):dd E g v (a.eval x):=by
 cases x with
 | tmp t=>exact S.fr t v h
 | const u=>exact Hg h
 | func f=>
  obtain rfl:SV.c (.fn f [])=v:=aj h;exact ⟨[],bz.nil,rfl⟩
 | global _=>cases h
theorem il {k:IntKind} {m:Int} {u:Value} (h:dd E g (.v (.c (.k (.int k m)))) u):u= .int k m/\aB k m:=h
theorem dH {k:IntKind} {m:Int} (h:aB k m):dd E g (.v (.c (.k (.int k m)))) (.int k m):=⟨rfl,h⟩
theorem iL (q:Bool):dd E g (.bool q) (.bool q):=⟨rfl,rfl⟩
theorem ez (k:IntKind) (z:Int):aB k (k.wrap z):=by
 cases k<;>simp [aB,IntKind.wrap,ij,kH]<;>refine by omega
theorem pO {k:IntKind} {z:Int} (h:aB k z):k.wrap z=z:=pg (oO.1 h)
theorem L6 {k:IntKind} {x y:Int} (h:aB k x):aB k (x.tmod y):=by
 have h1:0<=x->0<=x.tmod y/\x.tmod y<=x:=λh=>⟨Int.tmod_nonneg y h,by
  have:=Int.tmod_add_mul_tdiv x y;rcases Int.lt_or_le y 0 with hy| hy
  .have hq:x.tdiv y<=0:=Int.tdiv_nonpos_of_nonneg_of_nonpos h (by omega);have:0<=y*x.tdiv y:=Int.mul_nonneg_of_nonpos_of_nonpos (by omega) hq;omega
  .have hq:0<=x.tdiv y:=Int.tdiv_nonneg h hy;have:0<=y*x.tdiv y:=Int.mul_nonneg hy hq;omega⟩
 rcases Int.lt_or_le x 0 with hx| hx
 .have h2:x.tmod y= -((-x).tmod y):=by simp
  have h3:0<=(-x).tmod y/\(-x).tmod y<= -x:=by
   refine ⟨Int.tmod_nonneg y (by omega),?_⟩;have:=Int.tmod_add_mul_tdiv (-x) y;rcases Int.lt_or_le y 0 with hy| hy
   .have hq:(-x).tdiv y<=0:=Int.tdiv_nonpos_of_nonneg_of_nonpos (by omega) (by omega);have:0<=y*(-x).tdiv y:=Int.mul_nonneg_of_nonpos_of_nonpos (by omega) hq;omega
   .have hq:0<=(-x).tdiv y:=Int.tdiv_nonneg (by omega) hy;have:0<=y*(-x).tdiv y:=Int.mul_nonneg hy hq;omega
  cases k<;>simp only [aB] at h ⊢ <;>omega
 .cases k<;>simp only [aB] at h ⊢ <;>omega
theorem NO {k:IntKind} {x:Int} {m:Nat} (h:aB k x):aB k (x.fdiv (2 ^ m)):=by
 have hp:(1:Int)<=2 ^ m:=by
  have:(0:Int)< 2 ^ m:=Int.pow_pos (by decide);omega
 have e:x.fdiv (2 ^ m)=x / 2 ^ m:=by grind
 rw [e];generalize (2:Int) ^ m=p at hp;have hd:=Int.mul_ediv_add_emod x p;have h1:=Int.emod_lt_of_pos x (show 0< p by omega);rcases Int.lt_or_le x 0 with hx| hx
 .have hq:x / p< 0:=Int.ediv_neg_of_neg_of_pos hx (by omega);have:x<=x / p:=by
   have h2:p*(x / p)<=1*(x / p):=Int.mul_le_mul_of_nonpos_right hp (by omega);rcases Int.lt_or_le (x / p) x with h4| h4
   .have h7:p*(x / p+1)<=1*(x / p+1):=Int.mul_le_mul_of_nonpos_right hp (by omega)
    grind
   omega
  cases k<;>simp only [aB] at h ⊢ <;>omega
 .have hq:0<=x / p:=Int.ediv_nonneg hx (by omega);have:x / p<=x:=Int.ediv_le_self p hx;cases k<;>simp only [aB] at h ⊢ <;>omega
end
theorem QA {P:Program} {w:World} {d n:Nat} {xs ys:Array Value} {f:Field} {fs:List Field} {gs:Array Field} {a b:Bool} (hn:(f.name != "_")=true) (hu:P.underlying f.type=some (.struct gs)) (hi:((P.info? f.type).map (·.size))=some n) (hp:P.stoodInHeld f.type=false)
  (hx:(Op.eqFields d (xs.extract f.offset (f.offset+n)) (ys.extract f.offset (f.offset+n)) gs.toList).run P w= .ok a w) (hr:(Op.eqFields (d+1) xs ys fs).run P w= .ok b w):(Op.eqFields (d+1) xs ys (f::fs)).run P w= .ok (a&& b) w:=by
 have hp1:∀ cs:Array Value,(part f.type cs f.offset).run P w= .ok (.agg (cs.extract f.offset (f.offset+n))) w:=λcs=>by
  cases hq:P.info? f.type with
  | none=>grind
  | some i=>
   simp_all [part, isAgg, sizeOf, typeInfo, run_underlying]
 have ja:f.name≠ "_" :=by grind
 have hfs:P.fieldsOf f.type=gs:=by grind [Program.fieldsOf]
 have he:=run_equalIn_struct (P:=P) w d f.type (xs.extract f.offset (f.offset+n)) (ys.extract f.offset (f.offset+n)) (by rw [hfs];exact hu) hp;rw [hfs,hx] at he;simp only [Op.eqFields,if_pos ja,Sem.run_bind,hp1,Result.andThen_ok,he];cases a;rfl
 grind
theorem afc {P:Program} {w:World} {d:Nat} {xs ys:Array Value} {f:Field} {fs:List Field} {m n:ByteArray} {b:Bool} (hn:(f.name != "_")=true) (hu:P.underlying f.type=some .string) (hi:((P.info? f.type).map (·.size))=some 1)
  (hx:xs[f.offset]?=some (.string m)) (hy:ys[f.offset]?=some (.string n)) (hr:(Op.eqFields (d+1) xs ys fs).run P w= .ok b w):(Op.eqFields (d+1) xs ys (f::fs)).run P w= .ok ((m.toList==n.toList)&& b) w:=by
 have hpx:(part f.type xs f.offset).run P w= .ok (.string m) w:=by
  simp_all [part, isAgg, run_underlying]
 have Z5:(part f.type ys f.offset).run P w= .ok (.string n) w:=by
  simp_all [part, isAgg, run_underlying]
 have ja:f.name≠ "_" :=by grind
 have he:(Op.equalIn (d+1) f.type (.string m) (.string n)).run P w= .ok (m.toList==n.toList) w:=by
  simp [Op.equalIn,run_underlying hu,go_sem,beq_toListBytes]
 simp only [Op.eqFields,if_pos ja,Sem.run_bind,hpx,Z5,Result.andThen_ok,he];cases hb:m.toList==n.toList;rfl
 grind
theorem aas {P:Program} {w:World} {d:Nat} {xs ys:Array Value} {f:Field} {fs:List Field} {m n:Bool} {b:Bool} (hn:(f.name != "_")=true) (hu:P.underlying f.type=some .bool) (hi:((P.info? f.type).map (·.size))=some 1)
  (hx:xs[f.offset]?=some (.bool m)) (hy:ys[f.offset]?=some (.bool n)) (hr:(Op.eqFields (d+1) xs ys fs).run P w= .ok b w):(Op.eqFields (d+1) xs ys (f::fs)).run P w= .ok ((m==n)&& b) w:=by
 have hpx:(part f.type xs f.offset).run P w= .ok (.bool m) w:=by
  simp_all [part, isAgg, run_underlying]
 have Z5:(part f.type ys f.offset).run P w= .ok (.bool n) w:=by
  simp_all [part, isAgg, run_underlying]
 have ja:f.name≠ "_" :=by grind
 have he:(Op.equalIn (d+1) f.type (.bool m) (.bool n)).run P w= .ok (m==n) w:=by
  simp [Op.equalIn,run_underlying hu,go_sem]
 simp only [Op.eqFields,if_pos ja,Sem.run_bind,hpx,Z5,Result.andThen_ok,he];cases hb:m==n;rfl
 grind

def Out (n:Nat) (W:cV) (F:List Atom) (b:Bs) (E:Env) (g:World) (a:Act) (K:SV->Ov->Prop) (v:Value) (w':World):Prop:=
 ∃ E' g' s' sv,bu E E'/\bt g g'/\df n W F b E' g' w' s' a/\dd E' g' sv v/\K sv s'
def k7 (P:Program) (o:Oper) (a:Act) (w:World) (R:Value->World->Prop):Prop:=
 (∃ v w',(execOp a.eval o).run P w= .ok (.value v) w'/\R v w')\/(∃ w',(execOp a.eval o).run P w= .ok .skip w'/\R undef w')\/(∃ f args,(execOp a.eval o).run P w= .ok (.enter f args) w/\HM P f args w R)
def PR (P:Program) (m:Sem Value) (w:World) (E:Env) (g:World) (K:SV->Prop):Prop:=∃ v sv,m.run P w= .ok v w/\dd E g sv v/\K sv
section
variable {P:Program} {n:Nat} {W:cV} {F:List Atom} {b:Bs} {E:Env} {g w:World} {s:Ov} {a:Act} {K:SV->Prop}
theorem Mt {op:BinOp} {k:IntKind} {x y:Int} {t:TypeId} (hx:aB k x) (h:Qf op k x y K):PR P (binOp op t (.int k x) (.int k y)) w E g K:=by
 have ar:∀ {z:Int},arith k z K->PR P (pure (Value.int k (k.wrap z))) w E g K:=λ{z} h=>by
  cases k<;>first
   | exact ⟨_,_,rfl,dH (ez _ z),h (ez _ z)⟩
   | exact ⟨_,_,by rw [pO (k:=.i64) h.1];rfl,dH h.1,h.2⟩
 cases op
 case add=>
  have e:(binOp .add t (.int k x) (.int k y))=pure (Value.int k (k.wrap (x+y))):=by simp [binOp,Op.intArith]
  rw [e];exact ar h
 case sub=>
  have e:(binOp .sub t (.int k x) (.int k y))=pure (Value.int k (k.wrap (x - y))):=by simp [binOp,Op.intArith]
  rw [e];exact ar h
 case mul=>
  have e:(binOp .mul t (.int k x) (.int k y))=pure (Value.int k (k.wrap (x*y))):=by simp [binOp,Op.intArith]
  rw [e];exact ar h
 case quo=>
  obtain ⟨hy,h⟩:=h
  grind [binOp,Op.intDiv]
 case rem=>
  obtain ⟨hy,h⟩:=h;have e:(binOp .rem t (.int k x) (.int k y))=pure (Value.int k (x.tmod y)):=by grind [binOp,Op.intDiv]
  rw [e];exact ⟨_,_,rfl,dH (L6 hx),h (L6 hx)⟩
 case shl=>trivial
 case shr=>trivial
 case and=>
  have e:(binOp .and t (.int k x) (.int k y))=pure (Value.int k (da .and k x y)):=by simp [binOp,Op.intBits,da]
  rw [e];exact ⟨_,_,rfl,dH (ez _ _),h (ez _ _)⟩
 case or=>
  have e:(binOp .or t (.int k x) (.int k y))=pure (Value.int k (da .or k x y)):=by simp [binOp,Op.intBits,da]
  rw [e];exact ⟨_,_,rfl,dH (ez _ _),h (ez _ _)⟩
 case xor=>
  have e:(binOp .xor t (.int k x) (.int k y))=pure (Value.int k (da .xor k x y)):=by simp [binOp,Op.intBits,da]
  rw [e];exact ⟨_,_,rfl,dH (ez _ _),h (ez _ _)⟩
 case andNot=>
  have e:(binOp .andNot t (.int k x) (.int k y))=pure (Value.int k (da .andNot k x y)):=by simp [binOp,Op.intBits,da]
  rw [e];exact ⟨_,_,rfl,dH (ez _ _),h (ez _ _)⟩
 all_goals exact ⟨_,_,by simp [binOp,Op.intCmp],iL _,h⟩
theorem YS {op:BinOp} {x y:ByteArray} {t:TypeId} (h:Ve op x y K):PR P (binOp op t (.string x) (.string y)) w E g K:=by
 cases op<;>try exact h.elim
 case add=>
  have e:(binOp .add t (.string x) (.string y))=pure (Value.string (x++y)):=by
   have h1:¬((x.size+y.size:Nat):Int)>IntKind.i64.max:=by
    have:=h.1;simp;omega
   simp_all [binOp,Op.stringOp,if_neg]
  rw [e];refine ⟨_,.str (x++y),rfl,⟨rfl,?_⟩,h.2⟩;have:=h.1;show (x++y).size<=maxLen;rw [ByteArray.size_append];assumption
 all_goals exact ⟨_,_,by rfl,iL _,h⟩
theorem Mq {wr:Bool} {op:BinOp} {k:IntKind} {x y:Int} {t:TypeId} (hx:aB k x) (h:JB wr op k x y K):PR P (binOp op t (.int k x) (.int k y)) w E g K:=by
 unfold JB at h;split at h
 .split at h
  .have e:(binOp .add t (.int .i64 x) (.int .i64 y))=pure (Value.int .i64 (IntKind.wrap .i64 (x+y))):=by rfl
   exact ⟨_,_,rfl,dH (ez _ _),h (ez _ _)⟩
  .have e:(binOp .sub t (.int .i64 x) (.int .i64 y))=pure (Value.int .i64 (IntKind.wrap .i64 (x - y))):=by rfl
   exact ⟨_,_,rfl,dH (ez _ _),h (ez _ _)⟩
  .have e:(binOp .mul t (.int .i64 x) (.int .i64 y))=pure (Value.int .i64 (IntKind.wrap .i64 (x*y))):=by rfl
   exact ⟨_,_,rfl,dH (ez _ _),h (ez _ _)⟩
  grind [Mt]
 grind [Mt]
theorem MZ {e:TypeId} {k0:IntKind} (hu:P.underlying e=some (.int k0)) (hi:((P.info? e).map (·.size))=some 1) {cs:Array Value} {j:Nat} {v:Value} (hx:cs[j]?=some v):(part e cs j).run P w= .ok v w:=by
 simp_all [part,isAgg,run_underlying]
theorem Ci {d:Nat} {e:TypeId} {k0:IntKind} (hu:P.underlying e=some (.int k0)) (hi:((P.info? e).map (·.size))=some 1):∀ {xs ys:List Cl} {us vs pu pv:List Value} {r:Bool},zd k0 xs ys=some r->bz E g xs us->bz E g ys vs->pu.length=pv.length->(Op.eqItems (d+1) e 1 (pu++us).toArray (pv++vs).toArray (List.range' pu.length xs.length)).run P w= .ok r w
 | [],[],us,vs,pu,pv,r,h,_,_,_=>by
  obtain rfl:true=r:=aj h;rfl
 | [],_::_,_,_,_,_,_,h,_,_,_=>by simp [zd] at h
 | _::_,[],_,_,_,_,_,h,_,_,_=>by simp [zd] at h
 | x::xs,y::ys,us,vs,pu,pv,r,h,⟨u,ve,e1,h1,h2⟩,⟨v,vs',e2,h3,h4⟩,hl=>by
  unfold zd at h;split at h
  .rename_i q1 _;exact absurd q1 (by simp)
  .rename_i k m l k' m' l' q1 q2;obtain ⟨rfl,rfl⟩:=List.cons.inj q1;obtain ⟨rfl,rfl⟩:=List.cons.inj q2;split at h
   .rename_i hk;rw [ao] at hk;obtain rfl:=IntKind.eq_of_beq hk.1;obtain rfl:=IntKind.eq_of_beq hk.2;split at h
    .rename_i q hq;obtain rfl:=aj h;obtain ⟨rfl,_⟩:=h1;obtain ⟨rfl,_⟩:=h3;subst e1 e2;have ih:=Ci (d:=d) (pu:=pu++ [.int k0 m]) (pv:=pv++ [.int k0 m']) hu hi hq h2 h4 (by simp [hl]);have hx:(pu++Value.int k0 m::ve).toArray[pu.length*1]?=some (.int k0 m):=by simp
     have hy:(pv++Value.int k0 m'::vs').toArray[pu.length*1]?=some (.int k0 m'):=by simp [hl]
     have hpx:=MZ (w:=w) hu hi hx;have Z5:=MZ (w:=w) hu hi hy;have he:(Op.equalIn (d+1) e (.int k0 m) (.int k0 m')).run P w= .ok (m==m') w:=by
      simp [Op.equalIn,run_underlying hu,go_sem]
     show (Op.eqItems (d+1) e 1 (pu++Value.int k0 m::ve).toArray (pv++Value.int k0 m'::vs').toArray (pu.length::List.range' (pu.length+1) xs.length)).run P w=_;simp only [Op.eqItems,Sem.run_bind,hpx,Z5,Result.andThen_ok,he];cases hb:m==m';simp [go_sem];simpa using ih
    .cases h
   .cases h
  .cases h
theorem Gk {d:Nat} {t e:TypeId} {n:Nat} {xs ys:List Cl} {us vs:List Value} {r:Bool} (ht:P.underlying t=some (.array n e)) (h:aau P n e xs ys=some r) (hx:bz E g xs us) (hy:bz E g ys vs):(Op.equalIn (d+2) t (.agg us.toArray) (.agg vs.toArray)).run P w= .ok r w:=by
 unfold aau at h;split at h
 .rename_i k0 i hu hi;split at h
  .rename_i hs;rw [ao] at hs;have h1:=ai hs.1;have h2:=ai hs.2;have hc:P.cellsOf e=1:=by grind [Program.cellsOf]
   rw [run_equalIn_array w (d+1) us.toArray vs.toArray ht hi,hc,<-h2,List.range_eq_range'];exact Ci (pu:=[]) (pv:=[]) hu (by grind) h hx hy rfl
  grind
 grind
theorem oA:∀ (fuel:Nat) {fs:List Field} {xs ys:List Cl} {us vs:List Value} {r:Bool} {d:Nat},JP P fuel fs xs ys=some r->bz E g xs us->bz E g ys vs->fuel<=d->(Op.eqFields d us.toArray vs.toArray fs).run P w= .ok r w
 | 0,_,_,_,_,_,_,_,h,_,_,_=>by simp [JP] at h
 | f+1,[],_,_,_,_,r,d,h,_,_,hd=>by
  obtain rfl:true=r:=aj h;exact afd
 | fu+1,f::fs,xs,ys,us,vs,r,d,h,hx,hy,hd=>by
  obtain ⟨d,rfl⟩:∃ k,d=k+1:=⟨d - 1,by omega⟩;unfold JP at h;split at h
  .rename_i hn;split at h
   .rename_i k i hu hi;split at h
    .rename_i mM;have Z1:(P.info? f.type).map (·.size)=some 1:=by rw [hi];exact congrArg some (ai mM)
     split at h
     .rename_i k1 m k2 m2 hax hay;split at h
      .rename_i hk;rw [ao] at hk;obtain rfl:=IntKind.eq_of_beq hk.1;obtain rfl:=IntKind.eq_of_beq hk.2;split at h
       .rename_i q hq;obtain rfl:=aj h;obtain ⟨u,h1,h2,h3⟩:=hx.get hax;obtain ⟨v,h4,h5,h6⟩:=hy.get hay;subst h2;subst h5;exact afe hn hu Z1 (by simpa using h1) (by simpa using h4) (oA fu hq hx hy (by omega))
       .cases h
      .cases h
     .cases h
    .cases h
   .rename_i i hu hi;split at h
    .rename_i mM;have Z1:(P.info? f.type).map (·.size)=some 1:=by rw [hi];exact congrArg some (ai mM)
     split at h
     .rename_i m m2 hax hay;split at h
      .rename_i q hq;obtain rfl:=aj h;obtain ⟨u,h1,h2,h3⟩:=hx.get hax;obtain ⟨v,h4,h5,h6⟩:=hy.get hay;subst h2;subst h5;exact aas hn hu Z1 (by simpa using h1) (by simpa using h4) (oA fu hq hx hy (by omega))
      .cases h
     .cases h
    .cases h
   .rename_i i hu hi;split at h
    .rename_i mM;have Z1:(P.info? f.type).map (·.size)=some 1:=by rw [hi];exact congrArg some (ai mM)
     split at h
     .rename_i m m2 hax hay;split at h
      .rename_i q hq;obtain rfl:=aj h;obtain ⟨u,h1,h2,h3⟩:=hx.get hax;obtain ⟨v,h4,h5,h6⟩:=hy.get hay;subst h2;subst h5;exact afc hn hu Z1 (by simpa using h1) (by simpa using h4) (oA fu hq hx hy (by omega))
      .cases h
     .cases h
    .cases h
   .rename_i gs i hu hi;split at h
    .cases h
    .rename_i hp;split at h
     .rename_i q1 hq1;split at h
      .rename_i q hq;obtain rfl:=aj h;refine QA hn hu (by rw [hi];rfl) (by simpa using hp) ?_ (oA fu hq hx hy (by omega));have:=oA fu (d:=d) hq1 ((hx.drop f.offset).take i.size) ((hy.drop f.offset).take i.size) (by omega);rw [show (us.toArray.extract f.offset (f.offset+i.size))=((us.drop f.offset).take i.size).toArray by rw [List.extract_toArray,List.extract_eq_take_drop,Nat.add_sub_cancel_left],
        show (vs.toArray.extract f.offset (f.offset+i.size))=((vs.drop f.offset).take i.size).toArray by rw [List.extract_toArray,List.extract_eq_take_drop,Nat.add_sub_cancel_left]]
       exact this
      .cases h
     .cases h
   .cases h
  .cases h
def iQ:Value->Bool
 | .pointer none| .slice none _ _| .map none| .nilFunc| .nilIface=>true
 | _=>false
def sj (d:Option TypeDesc) (u:Value):Bool:=match d,u with
 | some (.pointer _),.pointer _=>true
 | some (.slice _),.slice _ _ _=>true
 | some (.map _ _),.map _=>true
 | some (.func _ _ _),.nilFunc| some (.func _ _ _),.func .. =>true
 | some (.interface _),.nilIface| some (.interface _),.iface .. =>true
 | _,_=>false
theorem n9 {e:Ty} {v:Value} {x:List e.den} (h:od e g v x):∃ a n c,v= .slice a n c/\(a=none->x= []):=by
 rcases (@dE e.den e.rep g v x).1 h with ⟨h1,h2⟩| ⟨a,c,h1,_⟩
 .grind
 grind
theorem M6 {d:Option TypeDesc} {x:Cl} {u:Value} (h:Zt d x=true) (r:ck E g x u):sj d u=true:=by
 unfold Zt at h;split at h<;>first| (cases h)| skip
 .obtain ⟨rfl,_⟩:=r;rfl
 .obtain ⟨b,_,rfl⟩:=r;rfl
 .obtain ⟨h0,v,h1,h2⟩:=r;obtain ⟨cs,h3,_⟩:=As h1 h0.1 h0.2.1;obtain ⟨q,hq,_⟩:=h3 g (bt.refl g);rw [h2,hq];rfl
 .obtain ⟨v,_,_,q,rfl⟩:=r;rfl
 .obtain ⟨rfl,_⟩:=r;rfl
 .obtain ⟨q,n,c,rfl,_⟩:=n9 r;rfl
 .obtain ⟨_,q,n,c,rfl⟩:=r;rfl
 .obtain ⟨rfl,_⟩:=r;rfl
 .obtain ⟨b,_,rfl⟩:=r;rfl
 .obtain ⟨rfl,_⟩:=r;rfl
 .obtain ⟨us,_,rfl⟩:=r;rfl
 .obtain ⟨rfl,_⟩:=r;rfl
 .obtain ⟨v,_,rfl⟩:=r;rfl
theorem GG {d:Option TypeDesc} {y:Cl} {v:Value} (h:GH d y=true) (r:ck E g y v):sj d v=true/\iQ v=true:=by
 unfold GH at h;split at h<;>first| (cases h)| skip
 all_goals
  obtain ⟨rfl,_⟩:=r;trivial
theorem NT {t:TypeId} {u v:Value} (k:Nat) (hu:sj (P.underlying t) u=true) (hv:sj (P.underlying t) v=true) (hn:iQ v=true):
  (Op.equalIn (k+1) t u v).run P w= .ok (iQ u) w/\(Op.equalIn (k+1) t v u).run P w= .ok (iQ u) w:=by
 cases hd:P.underlying t with
 | none=>rw [hd] at hu;trivial
 | some d=>
  rw [hd] at hu hv;cases d<;>(try (cases u<;>cases hu;done))<;>cases u<;>(try (cases hu;done))<;>cases v<;>(try (cases hv;done))<;>(try (cases hn;done))
  case pointer.pointer.pointer e p q=>
   cases q with
   | some q=>cases hn
   | none=>cases p<;>constructor<;>simp [Op.equalIn,run_underlying hd,iQ]
  case slice.slice.slice e p n c q n' c'=>
   cases q with
   | some q=>cases hn
   | none=>cases p<;>constructor<;>simp [Op.equalIn,run_underlying hd,iQ]
  case map.map.map k e p q=>
   cases q with
   | some q=>cases hn
   | none=>cases p<;>constructor<;>simp [Op.equalIn,run_underlying hd,iQ]
  all_goals constructor<;>simp [Op.equalIn,run_underlying hd,iQ]
theorem Wg {t:TypeId} {u v:Value} (hu:sj (P.underlying t) u=true) (hv:sj (P.underlying t) v=true) (hn:iQ v=true):
  (Op.equal t u v).run P w= .ok (iQ u) w/\(Op.equal t v u).run P w= .ok (iQ u) w:=NT 9999 hu hv hn
end
section
variable {P:Program} {n:Nat} {W:cV} {F:List Atom} {b:Bs} {E:Env} {g w:World} {s:Ov} {a:Act} {K:SV->Prop}
theorem G4 {op:BinOp} {t:TypeId} {ox oy:Operand} {u v:Value} (hu:sj (P.underlying t) u=true) (hc:u= .nilIface->v= .nilIface->(isConst ox|| isConst oy)=true):(eqGuard op t ox oy u v).run P w= .ok () w:=by
  unfold eqGuard;cases op<;>simp<;>cases u<;>(try rfl)<;>cases v<;>(try rfl)
  all_goals first
    | (cases hd:P.underlying t with
       | none=>rw [hd] at hu;cases hu
       | some d=>rw [hd] at hu;cases d<;>cases hu)
    | (have:=hc rfl rfl
       cases ox<;>cases oy<;>simp [isConst] at this ⊢)
theorem Um {op:BinOp} {t:TypeId} {ox oy:Operand} {u v:Value} {e:Bool} (he:isEq op=some e) (hu:sj (P.underlying t) u=true) (hv:sj (P.underlying t) v=true) (hn:iQ v=true)
  (hc:u= .nilIface->v= .nilIface->(isConst ox|| isConst oy)=true):
  (do eqGuard op t ox oy u v;binOp op t u v:Sem Value).run P w= .ok (.bool (if e then iQ u else !iQ u)) w/\(do eqGuard op t ox oy v u;binOp op t v u:Sem Value).run P w= .ok (.bool (if e then iQ u else !iQ u)) w:=by
 obtain ⟨h1,h2⟩:=Wg (P:=P) (w:=w) hu hv hn;have g1:=G4 (op:=op) (ox:=ox) (oy:=oy) (w:=w) hu hc;have g2:=G4 (P:=P) (op:=op) (ox:=ox) (oy:=oy) (w:=w) (u:=v) (v:=u) hv λa b=>hc b a;have b1:∀ x y:Value,sj (P.underlying t) x=true->sj (P.underlying t) y=true->binOp .eql t x y=(do pure (.bool (<-Op.equal t x y)))/\binOp .neq t x y=(do pure (.bool (!(<-Op.equal t x y)))):=λx y hx hy=>by
  cases hd:P.underlying t with
  | none=>rw [hd] at hx;trivial
  | some d=>
   rw [hd] at hx hy;cases d<;>(try (done))<;>cases x<;>(trivial)<;>cases y<;>(trivial)<;>exact trivial
 cases op<;>cases he
 .simp_all
 simp_all
theorem Ia {e:Ty} {t:TypeId} {v:Value} {xs:List e.den} {l:List Atom} (H:SL W g w (pD e t v xs::l)):(∃ q m c,v= .slice q m c/\(q=none->xs= [])):=by
 letI:=e.rep;have h:=SL.agk (α:=e.den) H;rcases dE.1 h with ⟨h1,h2⟩| ⟨q,c,h1,_⟩
 .grind
 grind
theorem j5 (S:df n W F b E g w s a) {l:Nat} {v:Value} (h:E[l]?=some v) {t:TypeId} {e:Ty} {xs:List e.den} (ho:b.obj s l= .sl t e xs):SL W g w (pD e t v xs::dJ (a8 E 0 (b.heap s)++F) l):=by
 have H:=S.pick h;rw [ho] at H;refine H.cv λk ⟨h1,h2,ap,q,⟨u,s1,s2⟩,s3⟩=>⟨h1,h2,ap,q,?_,s3⟩
 grind
theorem lO (S:df n W F b E g w s a) {l:Nat} {v:Value} (h:E[l]?=some v) {t:TypeId} {e:Ty} {xs:List e.den} (ho:b.obj s l= .held t e xs):od e g v xs:=by
 have H:=S.pick h;rw [ho] at H;obtain ⟨k,_,_,_,h1,h2,ap,q,⟨u,s1,s2⟩,s3⟩:=H
 grind
theorem o5 (S:df n W F b E g w s a) {l:Nat} {bb:Nat} (h:E[l]?=some (ptr bb 0)) {t:TypeId} {cs:List Cl} (ho:b.obj s l= .cells t cs):∃ us,bz E g cs us/\HN w bb us.toArray t/\SL W g w (pc bb us.toArray t::dJ (a8 E 0 (b.heap s)++F) l):=by
 have H:=S.pick h;rw [ho] at H;obtain ⟨k,be,se,ow,h1,h2,ap,q,⟨b',us,s1,s2,s3⟩,s4⟩:=H;have:bb=b':=by
  grind
 subst this;have H':SL W g w (pc bb us.toArray t::dJ (a8 E 0 (b.heap s)++F) l):=⟨k,be,se,ow,h1,h2,ap,q,s3,s4⟩;exact ⟨us,s2,H'.Ey.2.1,H'⟩
theorem Tb (S:df n W F b E g w s a) {d:Option TypeDesc} {x:Cl} {u:Value} {JS e:Bool} (ht:Zt d x=true) (r:ck E g x u) (h:aeF b s JS x e K):K (.bool (if e then iQ u else !iQ u))/\(u= .nilIface->JS=true):=by
  unfold aeF at h;split at h
  · rename_i hn
    unfold Ta at hn;split at hn<;>(try (done))
    all_goals first
      | (obtain ⟨rfl,_⟩:=r
         simp only [isIface,jm,eO,dQ,if_false] at h
         first
           | (cases JS
              · simp at h
              · cases e<;>exact ⟨h,by grind⟩)
           | (cases e<;>exact ⟨h,by grind⟩))
      | grind
  · rename_i hn
    have hv:iQ u=false/\u≠ .nilIface:=by
      unfold Ta at hn;split at hn<;>(try (cases hn))
      · obtain ⟨_,_,rfl⟩:=r;exact ⟨rfl,by grind⟩
      · obtain ⟨h0,v,h1,h2⟩:=r
        obtain ⟨cs,h3,_⟩:=As h1 h0.1 h0.2.1;obtain ⟨q,hq,_⟩:=h3 g (bt.refl g);rw [h2,hq];exact ⟨rfl,λq=>by cases q⟩
      · obtain ⟨v,_,_,q,rfl⟩:=r;exact ⟨rfl,by grind⟩
      · obtain ⟨_,_,rfl⟩:=r;exact ⟨rfl,by grind⟩
      · obtain ⟨_,_,rfl⟩:=r;exact ⟨rfl,by grind⟩
      · obtain ⟨_,_,rfl⟩:=r;exact ⟨rfl,by grind⟩
      grind
    grind
  · rename_i p hn
    have hv:(iQ u=true->p)/\u≠ .nilIface:=by
      unfold Ta at hn;split at hn<;>(try (cases hn;done))
      · cases hn
        obtain ⟨q,m,c,rfl,hq⟩:=n9 r;exact ⟨λhz=>hq (by cases q<;>first| rfl| cases hz),by grind⟩
      · split at hn<;>(try (cases hn;done))
        · cases hn
          rename_i ho;obtain ⟨q,m,c,rfl,hq⟩:=Ia (j5 S r.1 ho);exact ⟨λhz=>hq (by cases q<;>first| rfl| cases hz),by grind⟩
        · cases hn
          rename_i ho;obtain ⟨q,m,c,rfl,hq⟩:=n9 (lO S r.1 ho);exact ⟨λhz=>hq (by cases q<;>first| rfl| cases hz),by grind⟩
    exact ⟨h _ hv.1,by grind⟩
  grind
theorem Dl {op:BinOp} {t:TypeId} {ox oy:Operand} {u v:Value} (h:(∃ k m k' m',u= .int k m/\v= .int k' m')\/(∃ x y,u= .string x/\v= .string y)\/(∃ x y,u= .bool x/\v= .bool y)):(eqGuard op t ox oy u v).run P w= .ok () w:=by
 rcases h with ⟨k,m,k',m',rfl,rfl⟩| ⟨x,y,rfl,rfl⟩| ⟨x,y,rfl,rfl⟩<;>cases op<;>simp [eqGuard]
theorem PR.bind {m:Sem Unit} {f:Sem Value} (h:m.run P w= .ok () w) (k:PR P f w E g K):PR P (do m;f) w E g K:=by
 obtain ⟨v,sv,h1,h2,h3⟩:=k;exact ⟨v,sv,by simp_all,h2,h3⟩
theorem Mv (S:df n W F b E g w s a) {wr:Bool} {op:BinOp} {t:TypeId} {ox oy:Operand} {x y:SV} {u v:Value} (rx:dd E g x u) (ry:dd E g y v) (h:ED wr P b s (isConst ox|| isConst oy) op t x y K):
  PR P (do eqGuard op t ox oy u v;binOp op t u v) w E g K:=by
 unfold ED at h;split at h
 .obtain ⟨rfl,hx⟩:=il rx;obtain ⟨rfl,hy⟩:=il ry;refine PR.bind (by simp_all [Dl]) ?_;split at h
  .rename_i k m k' q _;have e:(binOp .shl t (.int k m) (.int k' q))=pure (.int k (AB k m q)):=by grind [binOp,Op.shift,AB]
   rw [e];exact ⟨_,_,rfl,dH (ez _ _),h.2 (ez _ _)⟩
  .rename_i k m k' q _;have e:(binOp .shr t (.int k m) (.int k' q))=pure (.int k (ll k m q)):=by grind [binOp,Op.shift,ll]
   rw [e];exact ⟨_,_,rfl,dH (NO hx),h.2 (NO hx)⟩
  .split at h
   .rename_i hk;obtain rfl:=IntKind.eq_of_beq hk
    grind [Mq]
   grind
 .obtain ⟨rfl,hx⟩:=rx;obtain ⟨rfl,hy⟩:=ry;simp_all [PR.bind,Dl,YS]
 .obtain ⟨rfl,hx⟩:=rx;obtain ⟨rfl,hy⟩:=ry;split at h
  .rename_i m q _ _ hu;exact ⟨_,_,run_eql_bool w t m q hu,iL _,h⟩
  .rename_i m q _ _ hu;exact ⟨_,_,run_neq_bool w t m q hu,iL _,h⟩
  grind
 .obtain ⟨us,hx,rfl⟩:=rx;obtain ⟨vs,hy,rfl⟩:=ry;split at h
  .rename_i fs hu;split at h
   .grind
   .rename_i hg;simp only [Bool.not_eq_true,Bool.or_eq_false_iff] at hg;have hgd:(eqGuard op t ox oy (.agg us.toArray) (.agg vs.toArray)).run P w= .ok () w:=by
     simp_all [eqGuard]
    have hfs:P.fieldsOf t=fs:=by grind [Program.fieldsOf]
    split at h
    .rename_i r hr hq;have he:=oA (w:=w) 9999 hq hx hy (aG _);have h2:=run_equalIn_struct (P:=P) w 9999 t us.toArray vs.toArray (by rw [hfs];exact hu) hg.2;cases op<;>cases hr;exact ⟨_,_,by simp_all [run_eql_struct],iL _,h⟩
    .rename_i r hr hq;have he:=oA (w:=w) 9999 hq hx hy (aG _);have h2:=run_equalIn_struct (P:=P) w 9999 t us.toArray vs.toArray (by rw [hfs];exact hu) hg.2;rw [hfs] at h2;unfold isEq at hr;cases op<;>cases hr;exact ⟨_,_,by simp_all [run_neq_struct],iL _,h⟩
    grind
  .rename_i n e hu;split at h
   .grind
   .rename_i hg;rw [Bool.not_eq_true] at hg;have hgd:(eqGuard op t ox oy (.agg us.toArray) (.agg vs.toArray)).run P w= .ok () w:=by
     simp_all [eqGuard]
    refine PR.bind hgd ?_;split at h
    .rename_i r hr hq;have he:=Gk (w:=w) (d:=9998) hu hq hx hy;unfold isEq at hr;cases op<;>cases hr;exact ⟨_,_,by simp_all [run_eql_struct],iL _,h⟩
    .rename_i r hr hq;have he:=Gk (w:=w) (d:=9998) hu hq hx hy;unfold isEq at hr;cases op<;>cases hr;exact ⟨_,_,by simp_all [run_neq_struct],iL _,h⟩
    grind
  grind
 .split at h
  .rename_i e he;split at h
   .rename_i ht;rw [ao] at ht;obtain ⟨h1,h2⟩:=Tb S ht.2 rx h;obtain ⟨n1,n2⟩:=GG ht.1 ry;exact ⟨_,_,(Um he (M6 ht.2 rx) n1 n2 (by grind)).1,iL _,h1⟩
   .split at h
    .rename_i ht;rw [ao] at ht;obtain ⟨h1,h2⟩:=Tb S ht.2 ry h;obtain ⟨n1,n2⟩:=GG ht.1 rx;exact ⟨_,_,(Um he (M6 ht.2 ry) n1 n2 (by grind)).2,iL _,h1⟩
    grind
  grind
 grind
theorem SB {wr:Bool} {op:UnOp} {x:SV} {u:Value} (rx:dd E g x u) (h:unV wr op x K):PR P (Op.unary op u) w E g K:=by
 unfold unV at h;split at h
 .obtain ⟨rfl,_⟩:=rx;exact ⟨_,_,rfl,iL _,h⟩
 .rename_i k m;obtain ⟨rfl,hx⟩:=il rx;have e:(Op.unary .neg (.int k m))=(binOp .sub 0 (.int k 0) (.int k m)):=by grind [Op.unary,binOp]
  rw [e];exact Mq (by cases k<;>exact ⟨by decide,by decide⟩) h
 .rename_i k m;obtain ⟨rfl,hx⟩:=il rx;have e:(Op.unary .xor (.int k m))=pure (Value.int k (da .xor k (if k.signed then -1 else k.max) m)):=by rfl
  exact ⟨_,_,rfl,dH (ez _ _),h (ez _ _)⟩
 grind
end
section
variable {P:Program} {n:Nat} {W:cV} {F:List Atom} {b:Bs} {E:Env} {g w:World} {s:Ov} {a:Act} {K:SV->Prop}
theorem abI (v:Value) (i j:Nat):nV (nV v i) j=nV v (i+j):=by
 cases v with
 | pointer p=>
  cases p with
  | none=>rfl
  | some q=>simp [nV,Go.Deep.add_add]
 | _=>rfl
theorem GO {g1:World} {k:Nat} {v:Value} {i:Int} {vs:List Value} {cs:List Cl} {t:TypeId} {off:Nat} {r:S1} (h:tS g1 k v i vs) (m:bt g1 w) (hc:bz E g cs vs) (hp:qb P t cs off=some r):
  ∃ u,(Instr.loadAt t (nV (km k v i) off)).run P w= .ok u w/\gr E g r u:=by
 unfold qb at hp;split at hp;cases hp
 .split at hp
  .split at hp
   .rename_i ie mN;split at hp
    .obtain rfl:=aj hp;have hl:off+ie.size<=vs.length:=by rw [hc.length];simp_all
     exact ⟨_,by grind [El],_,(hc.drop off).take ie.size,rfl⟩
    grind
   grind
  .split at hp
   .rename_i c TA;obtain rfl:=aj hp;obtain ⟨u,h1,h2⟩:=hc.get TA;exact ⟨u,by grind [sw],h2⟩
   grind
theorem C7 {bb:Nat} {us:List Value} {cs:List Cl} {t t':TypeId} {off:Nat} {r:S1} (h:HN w bb us.toArray t') (hc:bz E g cs us) (hp:qb P t cs off=some r):
  ∃ u,(Instr.loadAt t (ptr bb off)).run P w= .ok u w/\gr E g r u:=by
 unfold qb at hp;split at hp;cases hp
 .split at hp
  .split at hp
   .rename_i ie mN;split at hp
    .obtain rfl:=aj hp;have hl:off+ie.size<=us.length:=by rw [hc.length];simp_all
     exact ⟨_,by grind [wK],_,(hc.drop off).take ie.size,rfl⟩
    grind
   grind
  .split at hp
   .rename_i c TA;obtain rfl:=aj hp;obtain ⟨u,h1,h2⟩:=hc.get TA;exact ⟨u,by grind [Ik],h2⟩
   grind
theorem VH {e:Ty} {t:TypeId} {v:Value} {xs:List e.den} {i:Int} {l:List Atom} (H:SL W g w (pD e t v xs::l)) (h0:0<=i) (h1:i< xs.length):∃ cs,tS w e.size v i cs/\e.rep.rel g cs (aA e xs i):=by
 letI:=e.rep;obtain ⟨cs,h2,h3⟩:=Zj (α:=e.den) H h0 h1
 grind [Ty.gw,aA]
theorem lG {P:Program} {t:TypeId} {k:Kk} (h:ke P t k=true):P.underlying t=some (match k with| .int=>.int .i64| .str=>.string):=by
 grind [ke]
theorem xf {P P':Program} {t:TypeId} {k:Kk} (h:ke P t k=true) (h':ke P' t k=true) (v:Value):keyOf P t v=keyOf P' t v:=by
 have hu:=lG h;have hu':=lG h';cases k<;>simp only [keyOf,hu,hu',mapKey]
theorem Jt {P P':Program} {t:TypeId} {k:Kk} (h:ke P t k=true) (h':ke P' t k=true) {bb:Nat} {m:List (k.den×Value)} {hh:Hp}:(@mapA k.den k.key P t bb m).sat g hh->(@mapA k.den k.key P' t bb m).sat g hh:=by
 letI:=k.key;rintro ⟨es,clock,h1,⟨⟨f1,f2,f3⟩,h3⟩⟩;have V4:∀ x,WideElems.rd P t eK x=WideElems.rd P' t eK x:=by grind [WideElems.rd,xf]
 refine ⟨es,clock,h1,⟨⟨f1,f2,by grind⟩,?_⟩⟩;have yX:WideElems.rg P' t eK=WideElems.rg P t eK:=funext (by grind [WideElems.rg])
 grind
theorem AX {t:TypeId} {n:Nat} {k:IntKind} (h:ME P t=some (n,k)):∃ e,P.underlying t=some (.array n e)/\(P.info? t).map (·.size)=some n/\8< n/\n<=1000000:=by
 unfold ME at h;split at h
 .split at h
  .simp_all;omega
  grind
 grind
theorem GU {k:IntKind}:∀ {cs:List (List Value)} {xs:List Int},@eF Int (Ty.int k).rep g cs xs->cs.flatten=xs.map (Value.int k ·)/\∀ n∈xs,aB k n
 | [],[],_=>by grind
 | c::cs,x::xs,⟨h1,h2⟩=>by
  obtain ⟨e1,e2⟩:=GU h2;have h3:aB k x:=(ft ([]:Env) g (.int k) h1).2;have h4:c= [.int k x]:=h1.1
  grind
 | [],_::_,h=>h.elim
 | _::_,[],h=>h.elim
theorem TJ {b n cap:Nat}:nV (km 1 (.slice (some ⟨b,0,none⟩) n cap) 0) 0=ptr b 0:=by
 rfl
theorem Uq {k:IntKind} {u:TypeId} {v:Value} {xs:List (Ty.int k).den} {l:List Atom} (H:SL W g w (pD (.int k) u v xs::l)) (hz:0< xs.length):
  ∃ bb cap cur,v= .slice (some ⟨bb,0,none⟩) xs.length cap/\xs.length<=cap/\cap<=maxLen/\cur.size=cap/\cur.toList.take xs.length=xs.map (Value.int k ·)/\(∀ n∈xs,aB k n)/\SL W g w (Lm.pc bb cur u::l):=by
 letI:=(Ty.int k).rep;obtain ⟨cs,r,H1⟩:=H.pD;obtain ⟨e1,e2⟩:=GU r;rcases H1.ofRow with ⟨_,hn,_,_⟩| ⟨bb,cap,cur,rfl,q1,q2,q3,q4,H2⟩;omega
 .have hs:aQ.size (Ty.int k).den=1:=rfl
  grind
def Hp.sub (h k:Hp):Prop:=∀ b o,h b=some o->k b=some o
theorem Hp.sub.trans {h k m:Hp} (a:h.sub k) (b:k.sub m):h.sub m:=λx o e=>b x o (a x o e)
theorem Hp.sub.left (h k:Hp):h.sub (h.join k):=λ_ _ e=>Hp.fK e
theorem Hp.sub.right {h k:Hp} (a:h.apart k):k.sub (h.join k):=λb o e=>by
 rw [Hp.join_comm a];exact Hp.fK e
theorem Cb {g:World} {A:Atom}:∀ {L:List Atom} {h:Hp},A∈L->bd g L h->∃ h',h'.sub h/\A.sat g h'
 | B::L,h,hA,⟨h1,h2,ap,e,s1,s2⟩=>by
  subst e;rcases bm.1 hA with rfl| hA
  .grind [Hp.sub.left]
  .obtain ⟨h',i,s⟩:=Cb hA s2;exact ⟨h',i.trans (Hp.sub.right ap),s⟩
theorem Uz (S:df n W F b E g w s a) {l mb:Nat} {v:Value} (h:E[l]?=some v) {kt tR:TypeId} {e:Ty} {M:List (Int×Nat×e.den)} {hz:Hp} (ho:b.obj s l= .ab (.pz kt tR e M hz mb)):v=ptr mb 0/\SL W g w (⟨λg h=>h=hz/\(pmA kt tR e M (ptr mb 0)).sat g h,λm ⟨h1,h2⟩=>⟨h1,Atom.mono _ m h2⟩⟩::dJ (a8 E 0 (b.heap s)++F) l):=by
 have H:=S.pick h;rw [ho] at H;obtain ⟨k,be,se,ow,h1,h2,ap,q,⟨v',s1,hv,Xe,s3⟩,s4⟩:=H;rw [h] at s1;obtain rfl:=aj s1;subst hv;exact ⟨rfl,k,be,se,ow,h1,h2,ap,q,by grind,s4⟩
theorem alF (S:df n W F b E g w s a) {l mb:Nat} {v:Value} (h:E[l]?=some v) {kt tR:TypeId} {e:Ty} {M:List (Int×Nat×e.den)} {hz:Hp} (ho:b.obj s l= .ab (.pz kt tR e M hz mb)) {p:Int×Nat×e.den} (hp:p∈M):∃ us,e.rep.rel g us p.2.2/\HN w p.2.1 us.toArray tR:=by
 obtain ⟨_,k,be,se,ow,h1,h2,ap,rfl,⟨_,s3⟩,s4⟩:=Uz S h ho;obtain ⟨x,h3,h4,ap2,e2,_,s5⟩:=s3;obtain ⟨h5,i5,us,h6,h7⟩:=Cb (A:=uY tR e p) (by grind) s5;have e3:h4.sub h1:=λb o q=>by rw [e2];exact Hp.sub.right ap2 b o q
 exact ⟨us,h6,(ow p.2.1 _ (Hp.fK (e3 _ _ (i5 _ _ h7)))).2.1⟩
theorem acT (S:df n W F b E g w s a) {l q:Nat} {v:Value} (h:E[l]?=some v) {t:TypeId} {e:Ty} {xs:List e.den} {i:Int} {off:Nat} (ho:b.obj s l= .pL (.sf t e xs i off) q):∃ vn,E[q]?=some vn/\SL W g w (sfA t e xs i off v vn::dJ (a8 E 0 (b.heap s)++F) l):=by
 have H:=S.pick h;rw [ho] at H;obtain ⟨k,be,se,ow,h1,h2,ap,e1,⟨v',vn,s1,s2,s3⟩,s4⟩:=H;rw [h] at s1;obtain rfl:=aj s1;exact ⟨vn,s2,k,be,se,ow,h1,h2,ap,e1,s3,s4⟩
theorem TB {z:Nat} {u:Value}:∀ {cs:List (List Value)} {i j:Nat} {r:List Value},(∀ x∈cs,x.length=z)->cs[i]?=some r->r[j]?=some u->cs.flatten[i*z+j]?=some u
 | [],_,_,_,_,h,_=>by grind
 | c::cs,0,j,r,_,h1,h2=>by
  grind
 | c::cs,i+1,j,r,hz,h1,h2=>by
  have hc:c.length=z:=hz c (by simp);have:=TB (i:=i) (λx hx=>hz x (aI _ hx)) (by simpa using h1) h2;rw [dz,bD (by rw [gR];omega),gR,hc,show i*z+1*z+j - z=i*z+j by omega];exact this
theorem amB {t:TypeId} {e:Ty} {v vn:Value} {xs:List e.den} {i:Int} {off:Nat} {l:List Atom} (H:SL W g w (sfA t e xs i off v vn::l)):∃ cs,tS w e.size v i cs/\cs[off]?=some vn/\∃ a n c,vn= .slice a n c:=by
 obtain ⟨k,be,se,ow,h1,h2,ap,e1,⟨cs,s1,⟨q1,q2,q3,q4,q5⟩,⟨q6,r,r1,r2⟩,_⟩,s4⟩:=H;have H1:SL W g w (uG t e.size v xs.length cs.flatten::l):=⟨k,be,se,ow,h1,h2,ap,e1,s1,s4⟩;have tx:=H1.row;rcases tx.2 with ⟨_,hn⟩| ⟨kb,cap,cur,rfl,_⟩;omega
 .refine ⟨r,λw2 m=>⟨(⟨kb,0,none⟩:Addr).add (i.toNat*e.size),rfl,λj u hj=>?_⟩,r2,q6⟩;rw [Go.Deep.add_add];exact m _ _ (tx.cells (g:=kb) rfl _ u (TB q1 r1 hj))
theorem xZ (S:df n W F b E g w s a) {t:TypeId} {x:Cl} {u:Value} (rx:ck E g x u) (h:tn P b s t x K):PR P (Instr.loadAt t u) w E g K:=by
 unfold tn at h;split at h
 .obtain ⟨bb,hE,rfl⟩:=rx;split at h
  .rename_i ho;split at h
   .rename_i r hr;obtain ⟨us,h1,h2,_⟩:=o5 S hE ho;obtain ⟨v,h3,h4⟩:=C7 h2 h1 hr;exact ⟨v,.v r,h3,h4,h⟩
   .cases h
  .cases h
 .obtain ⟨⟨x,hE⟩,rfl,_⟩:=rx;split at h
  .rename_i ho;obtain ⟨p,hp,hb,h⟩:=h;subst hb;split at h
   .rename_i r' hr;obtain ⟨us,h1,h2⟩:=alF S hE ho hp;obtain ⟨h4,h5⟩:=ft E g _ h1;obtain ⟨v,h3,h6⟩:=C7 h2 h4 hr;exact ⟨v,.v r',h3,h6,h h5⟩
   .cases h
  .cases h
 .obtain ⟨h0,v,h1,rfl⟩:=rx;split at h
  .rename_i r hr;obtain ⟨cs,h2,h3⟩:=As h1 h0.1 h0.2.1;obtain ⟨h4,h5⟩:=ft E g _ h3;obtain ⟨q,h6,h7⟩:=GO h2 S.m h4 hr;exact ⟨q,.v r,h6,h7,h h5⟩
  .cases h
 .obtain ⟨v,hE,rfl,_⟩:=rx;split at h
  .rename_i ho;split at h
   .rename_i n k ha;split at h
    .rename_i ys Ny;obtain ⟨q,hy⟩:=eB Ny;subst q;subst hy;obtain ⟨hc,h⟩:=dc h;simp only [ao] at hc;obtain ⟨Ew,hlen,h⟩:=h;obtain ⟨e,hu,mM,hn,_⟩:=AX ha;have hlen:_=n:=hlen;obtain ⟨bb,cap,cur,rfl,q1,q2,q3,q4,q5,H2⟩:=Uq (j5 S hE ho) (by rw [hlen];omega);rw [ai hc.1,ai hc.2,Ew,TJ];refine ⟨_,.arr k _,wK (H2.pc 0) hu rfl (vs:=List.map (Value.int k ·) _) (by rw [mM,bT,hlen]) (by rw [o9,bT];exact q4),⟨rfl,q5⟩,h⟩
    .cases h
   .split at h
    .rename_i mM;obtain ⟨h0,h1,h⟩:=h;split at h
     .rename_i r hr;obtain ⟨cs,h2,h3⟩:=VH (j5 S hE ho) h0 h1;obtain ⟨h4,h5⟩:=ft E g _ h3;obtain ⟨q,h6,h7⟩:=GO h2 (bt.refl w) h4 hr;rw [ai mM] at h6;exact ⟨q,.v r,h6,h7,h h5⟩
     .cases h
    .cases h
  .rename_i ho;split at h
   .rename_i hu;have hQ:=dc h;clear h;obtain ⟨hc,rfl,h⟩:=hQ;rw [ao] at hc;obtain ⟨vn,hq,H⟩:=acT S hE ho;obtain ⟨cs,h2,h3,h4⟩:=amB H;rw [<-ai hc.1,ai hc.2];exact ⟨vn,.c (.o _),sw h2 (bt.refl w) hu rfl h3,⟨hq,h4⟩,h⟩
   .cases h
  .cases h
 .cases h
end
def ER (P:Program) (o:Oper) (a:Act) (w:World) (E:Env) (g:World) (K:SV->Prop):Prop:=∃ v sv,(execOp a.eval o).run P w= .ok (.value v) w/\dd E g sv v/\K sv
section
variable {P:Program} {n:Nat} {W:cV} {F:List Atom} {b:Bs} {E:Env} {g w:World} {s:Ov} {a:Act} {K:SV->Prop} {o:Oper}
theorem ER.of {m:Sem Value} (h:execOp a.eval o=(do pure (.value (<-m)))) (k:PR P m w E g K):ER P o a w E g K:=by
 obtain ⟨v,sv,h1,h2,h3⟩:=k;exact ⟨v,sv,by simp_all,h2,h3⟩
theorem Jv {e:Ty} {v:Value} {xs:List e.den} {x:Operand} {t et:TypeId} (h:od e w v xs) (ho:o.op= .call {callee:=.builtin .len,args:= #[x],argTypes:= #[t]}) (ht:P.underlying t=some (.slice et)) (hx:a.eval x=v):(execOp a.eval o).run P w= .ok (.value (.int .i64 xs.length)) w:=by
 letI:=e.rep;exact an6 (α:=e.den) h ho ht hx
theorem pK {e:Ty} {t:TypeId} {v:Value} {xs:List e.den} {l:List Atom} (H:SL W g w (pD e t v xs::l)):od e w v xs:=by
 letI:=e.rep;exact SL.agk (α:=e.den) H
theorem rW.length {k:Kk} {e:Ty}:∀ {l:List (k.den×Value)} {xs:List (k.den×e.den)},rW g k e l xs->l.length=xs.length
 | [],_,h=>by rw [show _= [] from h];rfl
 | _::_,_,⟨x,r,q,_,h2⟩=>by rw [q,av,av,h2.length]
theorem Q9 {P:Program} (S:df n W F b E g w s a) {l bb:Nat} (h:E[l]?=some (ptr bb 0)) {t:TypeId} {k:Kk} {e:Ty} {xs:List (k.den×e.den)} (ho:b.obj s l= .map t k e xs) (hk:ke P t k=true):
  ∃ m,rW g k e m xs/\SL W g w (@mapA k.den k.key P t bb m::dJ (a8 E 0 (b.heap s)++F) l):=by
 have H:=S.pick h;rw [ho] at H;obtain ⟨k1,be,se,ow,h1,h2,ap,q,⟨b',m,s1,s2,P',AK,s3⟩,s4⟩:=H;have:bb=b':=by
  grind
 subst this;exact ⟨m,s2,k1,be,se,ow,h1,h2,ap,q,Jt AK hk s3,s4⟩
theorem Mp (S:df n W F b E g w s a) {x:Operand} {t:TypeId} {c:Cl} (ho:o.op= .call {callee:=.builtin .len,args:= #[x],argTypes:= #[t]}) (r:ck E g c (a.eval x)) (h:Er P b s t c K):ER P o a w E g K:=by
 have ii:∀ {m:Nat},m<=9223372036854775807->aB .i64 (m:Int):=λ{m} h=>by
  show (-9223372036854775808:Int)<=m/\(m:Int)<=9223372036854775807;omega
 unfold Er at h;split at h
 .rename_i z ht;obtain ⟨hx,hz⟩:=r;exact ⟨_,_,W4 ho ht hx,dH (ii hz),h⟩
 .rename_i et ht;obtain ⟨hx,_⟩:=r;have:od .unit w (.slice none 0 0) []:=(@dE Unit Ty.unit.rep w _ _).2 (.inl ⟨rfl,rfl⟩);exact ⟨_,_,Jv this ho ht hx,dH (ii (by simp)),h⟩
 .rename_i kt et ht;obtain ⟨hx,_⟩:=r;exact ⟨_,_,Kg ho ht hx,dH (ii (m:=0) (by simp)),h⟩
 .rename_i et e x ht;have hl:=lJ (show od e g _ x from r);exact ⟨_,_,Jv (od.mono S.m r) ho ht rfl,dH (ii hl),h hl⟩
 .rename_i et l off m ht;obtain ⟨bb,c,hE,hc,hx⟩:=r;obtain ⟨hm,h⟩:=h;refine ⟨.int .i64 m,_,?_,dH (ii hm),h⟩;simp [execOp,ho,resolve,invoke,builtin,Builtin.len_,hx,run_underlying ht,goInt]
 .rename_i et l ht;obtain ⟨hE,_⟩:=r;split at h
  .rename_i eD;have hi:=pK (j5 S hE eD);have hl:=lJ hi;exact ⟨_,_,Jv hi ho ht rfl,dH (ii hl),h hl⟩
  .rename_i eD;have hi:=lO S hE eD;have hl:=lJ hi;exact ⟨_,_,Jv (hi.mono S.m) ho ht rfl,dH (ii hl),h hl⟩
  .cases h
 .rename_i kt et l ht;obtain ⟨bb,hE,hx⟩:=r;split at h
  .rename_i k' kk e xs eD;obtain ⟨hk,h9⟩:=dc h;rw [ao] at hk;obtain ⟨tz,r7⟩:=hk;obtain rfl:=ai tz;obtain ⟨m,h1,H⟩:=Q9 S hE eD r7;letI:=kk.key;have hl:xs.length<=9223372036854775807:=by
    rw [<-h1.length];exact H.GK
   refine ⟨.int .i64 xs.length,_,?_,dH (ii hl),h9 hl⟩;have:=H.ZE ht o.type;rw [h1.length] at this;simp [execOp,ho,resolve,invoke,builtin,hx,this]
  .rename_i kt2 tR e M eD;obtain ⟨hk,h9⟩:=dc h;rw [ao] at hk;obtain ⟨tz,r7⟩:=hk;obtain rfl:=ai tz;have H:=S.pick hE;rw [eD] at H;have H1:SL W g w (pmA kt tR e M (ptr bb 0)::dJ (a8 E 0 (b.heap s)++F) l):=H.cv λ_ ⟨k1,k2,ap,q,⟨v,h1,h2⟩,h3⟩=>⟨k1,k2,ap,q,by
    rw [hE] at h1;obtain rfl:=aj h1;exact h2,h3⟩
   obtain ⟨⟨mb,P'⟩,H2⟩:=SL.CV H1;obtain ⟨⟨hv,hu⟩,H3⟩:=SL.pure H2;have hbb:bb=mb:=by simpa [ptr] using hv
   subst hbb;have hP':ke P' kt .int=true:=by unfold ke;rw [hu]
   have H4:SL W g w (mapA P kt bb (td M)::(M.map (uY tR e)++dJ (a8 E 0 (b.heap s)++F) l)):=H3.cv λ_ ⟨k1,k2,ap,q,h1,h2⟩=>⟨k1,k2,ap,q,w9 (λv=>xf hP' r7 v) h1,h2⟩;have JF:(td M).length=M.length:=by unfold td;rw [bT]
   have hl:M.length<=9223372036854775807:=by
    rw [<-JF];exact H4.GK
   refine ⟨.int .i64 M.length,_,?_,dH (ii hl),h9 hl⟩;have:=H4.ZE ht o.type;rw [JF] at this;simp [execOp,ho,resolve,invoke,builtin,hx,this]
  .cases h
 .cases h
theorem Gm {t:TypeId} {x:Operand} {j:Nat} {c c':Cl} {f:Field} {ie:TypeInfo} (ho:o.op= .fieldAddr t x j) (r:ck E g c (a.eval x)) (hf:uw P t j=some f) (hi:P.info? f.type=some ie) (hs:gH 0 ie.size=true) (hc:abH c f.offset=some c')
  :∃ v,(execOp a.eval o).run P w= .ok (.value v) w/\ck E g c' v:=by
 have xj:¬ie.size=0:=by
  simp_all;omega
 unfold uw at hf;split at hf
 .have key:∀ q:Addr,a.eval x= .pointer (some q)->(execOp a.eval o).run P w= .ok (.value (.pointer (some (q.add f.offset)))) w:=by simp_all [execOp,Instr.fieldAt,Instr.sureAddr,run_underlying,fieldPlace,sizeOf,typeInfo]
  unfold abH at hc;split at hc
  .obtain rfl:=aj hc;obtain ⟨bb,hE,hx⟩:=r;refine ⟨_,key _ hx,bb,hE,?_⟩
   grind [Addr.add]
  .split at hc
   .obtain rfl:=aj hc;obtain ⟨h0,v,h1,hx⟩:=r;obtain ⟨cs,h3,_⟩:=As h1 h0.1 h0.2.1;obtain ⟨q,hq,_⟩:=h3 g (bt.refl g);rw [hq] at hx;refine ⟨_,key _ hx,by simp_all,v,h1,?_⟩
    grind [nV,Go.Deep.add_add]
   grind
  .obtain rfl:=aj hc;obtain ⟨v,hE,hx,q,hq⟩:=r;refine ⟨_,key _ hq,v,hE,?_,_,rfl⟩;rw [<-abI,<-hx,hq];rfl
  .obtain rfl:=aj hc;obtain ⟨hE,hx,_⟩:=r;refine ⟨_,key _ hx,hE,?_,rfl⟩
   grind [Addr.add]
  grind
 grind
theorem Il {x i:Operand} {t et:TypeId} {e:Ty} {v:Value} {xs:List e.den} {k:Int} {ki:IntKind} {ie:TypeInfo} (h:od e w v xs) (h0:0<=k) (h1:k< xs.length) (ho:o.op= .indexAddr t x i) (ht:P.underlying t=some (.slice et)) (hi:P.info? et=some ie) (hs:Nat.beq e.size ie.size=true)
  (hx:a.eval x=v) (hk:a.eval i= .int ki k):(execOp a.eval o).run P w= .ok (.value (km e.size v k)) w:=by
 letI:=e.rep;have mM:aQ.size e.den=e.size:=Ty.gw e;have:=OJ (α:=e.den) (P:=P) (o:=o) (ρ:=a.eval) h h0 h1 ho ht (by simp_all) hx hk
 grind
theorem ze {e:Ty} {v:Value} {xs:List e.den} {k:Int} (h:od e w v xs) (h0:0<=k) (h1:k< xs.length):nV (km e.size v k) 0=km e.size v k/\∃ q,km e.size v k= .pointer (some q):=by
 obtain ⟨cs,h3,_⟩:=As h h0 h1;obtain ⟨q,hq,_⟩:=h3 w (bt.refl w)
 grind [nV,Addr.add]
theorem Dn {e:Ty} {v:Value} {xs:List e.den} {k:Int} {sz:Nat} (h:od e w v xs) (h0:0<=k) (h1:k< xs.length):∃ q:Addr,nV (km sz v 0) 0= .pointer (some q)/\nV (km sz v k) 0= .pointer (some (q.add (k.toNat*sz))):=by
 letI:=e.rep;rcases (dE (α:=e.den)).1 h with ⟨_,rfl⟩| ⟨a,cap,rfl,_⟩
 .grind
 .refine ⟨(a.add (ax 0*sz)).add 0,rfl,?_⟩;show Value.pointer (some ((a.add (k.toNat*sz)).add 0))=_
  grind [Go.Deep.add_add]
theorem su (S:df n W F b E g w s a) {x i:Operand} {t:TypeId} {c:Cl} {k:Int} {ki:IntKind} (ho:o.op= .indexAddr t x i) (r:ck E g c (a.eval x)) (hk:a.eval i= .int ki k) (h:iC P b s t c k K):ER P o a w E g K:=by
 unfold iC at h;split at h
 .rename_i m et ht;split at h
  .rename_i ie l off mN;obtain ⟨h0,h1,h⟩:=h;obtain ⟨bb,hE,hx⟩:=r;refine ⟨.pointer (some ((⟨bb,off,none⟩:Addr).add (k.toNat*ie.size))),.c (.p l (off+k.toNat*ie.size)),?_,⟨bb,hE,?_⟩,h⟩
   .simp [execOp,ho,hx,hk,Instr.indexAt,asIntOf,Instr.sureAddr,run_underlying ht,h0,h1,sizeOf,typeInfo,mN]
   grind [Addr.add]
  .rename_i ie l sz j mN;obtain ⟨v,hE,hx,_⟩:=r;split at h
   .rename_i eD;obtain ⟨hc,hj,h0,h1,h2,h⟩:=dc h;simp only [ao] at hc;obtain ⟨q,e1,e2⟩:=Dn (sz:=ie.size) (pK (j5 S hE eD)) h0 h2;rw [ai hc.2,hj,e1] at hx;refine ⟨.pointer (some (q.add (k.toNat*ie.size))),.c (.oe l _ k 0),?_,⟨v,hE,by rw [ai hc.1,e2],_,rfl⟩,h⟩;simp [execOp,ho,hx,hk,Instr.indexAt,asIntOf,Instr.sureAddr,run_underlying ht,h0,h1,sizeOf,typeInfo,mN]
   .rename_i eD;obtain ⟨hc,hj,h0,h1,h2,h⟩:=dc h;simp only [ao] at hc;have hi:=lO S hE eD;obtain ⟨q,e1,e2⟩:=Dn (sz:=ie.size) hi h0 h2;rw [ai hc.2,hj,e1] at hx;refine ⟨.pointer (some (q.add (k.toNat*ie.size))),.c (.de _ _ k 0),?_,(show ck E g (.de _ _ k 0) _ from ⟨by omega,v,hi,by simp_all⟩),h⟩;simp [execOp,ho,hx,hk,Instr.indexAt,asIntOf,Instr.sureAddr,run_underlying ht,h0,h1,sizeOf,typeInfo,mN]
   grind
  .rename_i ie e xs j mN;obtain ⟨_,v,hi,hx⟩:=r;obtain ⟨hc,hj,h0,h1,h2,h⟩:=dc h;obtain ⟨q,e1,e2⟩:=Dn (sz:=ie.size) hi h0 h2;rw [ai hc,hj,e1] at hx;refine ⟨.pointer (some (q.add (k.toNat*ie.size))),.c (.de _ _ k 0),?_,(show ck E g (.de _ _ k 0) _ from ⟨by omega,v,hi,by simp_all⟩),h⟩;simp [execOp,ho,hx,hk,Instr.indexAt,asIntOf,Instr.sureAddr,run_underlying ht,h0,h1,sizeOf,typeInfo,mN]
  grind
 .rename_i et ht;split at h
  .grind
  .rename_i ie mN;split at h
   .rename_i e xs;split at h
    .rename_i hs;obtain ⟨h0,h1,h⟩:=h;have r':od e g (a.eval x) xs:=r;exact ⟨_,.c (.de e xs k 0),Il (r'.mono S.m) h0 h1 ho ht mN hs rfl hk,(show ck E g (.de e xs k 0) _ from ⟨by omega,_,r',by grind [ze]⟩),h⟩
    grind
   .rename_i l off m;obtain ⟨bb,c,hE,hc,hx⟩:=r;obtain ⟨h0,h1,h⟩:=h;refine ⟨.pointer (some ((⟨bb,off,none⟩:Addr).add (k.toNat*ie.size))),.c (.p l (off+k.toNat*ie.size)),?_,⟨bb,hE,?_⟩,h⟩
    .simp [execOp,ho,hx,hk,Instr.indexAt,asIntOf,run_underlying ht,h0,h1,sizeOf,typeInfo,mN]
    grind [Addr.add]
   .obtain ⟨hE,_⟩:=r;split at h
    .rename_i eD;split at h
     .rename_i hs;obtain ⟨h0,h1,h⟩:=h;have hi:=pK (j5 S hE eD);obtain ⟨q1,q2⟩:=ze hi h0 h1;exact ⟨_,.c (.oe _ _ k 0),Il hi h0 h1 ho ht mN hs rfl hk,(show ck E g (.oe _ _ k 0) _ from ⟨_,hE,q1.symm,q2⟩),h⟩
     grind
    .rename_i eD;split at h
     .rename_i hs;obtain ⟨h0,h1,h⟩:=h;have hi:=lO S hE eD;exact ⟨_,.c (.de _ _ k 0),Il (hi.mono S.m) h0 h1 ho ht mN hs rfl hk,(show ck E g (.de _ _ k 0) _ from ⟨by omega,_,hi,by grind [ze]⟩),h⟩
     grind
    grind
   grind
 grind
theorem YT {f:Field} {us:List Value} {cs:List Cl} {r:S1} (hc:bz E g cs us) (hp:qb P f.type cs f.offset=some r):∃ u,(part f.type us.toArray f.offset).run P w= .ok u w/\gr E g r u:=by
 unfold qb at hp;split at hp;cases hp
 .rename_i d hd;split at hp
  .split at hp
   .rename_i ie mN;split at hp
    .obtain rfl:=aj hp;refine ⟨.agg ((us.drop f.offset).take ie.size).toArray,?_,_,(hc.drop _).take _,rfl⟩;have ae9:(isAgg f.type).run P w= .ok true w:=by
      unfold isAgg;rw [Sem.run_bind,run_underlying hd w];cases d<;>simp_all
     simp_all [part,sizeOf,typeInfo]
    grind
   grind
  .split at hp
   .rename_i c TA;obtain rfl:=aj hp;obtain ⟨u,h1,h2⟩:=hc.get TA;refine ⟨u,?_,h2⟩;have ae9:(isAgg f.type).run P w= .ok false w:=by
     unfold isAgg;rw [Sem.run_bind,run_underlying hd w];cases d<;>simp_all
    simp_all [part]
   grind
theorem Gj {t:TypeId} {x:Operand} {j:Nat} {cs:List Cl} {f:Field} {r:S1} (ho:o.op= .field t x j) (hx:dd E g (.v (.agg cs)) (a.eval x)) (hf:uw P t j=some f) (hp:qb P f.type cs f.offset=some r) (h:K (.v r)):ER P o a w E g K:=by
 obtain ⟨us,hc,hx⟩:=hx;obtain ⟨u,h1,h2⟩:=YT (w:=w) hc hp;unfold uw at hf;split at hf
 .refine ⟨u,.v r,?_,h2,h⟩;simp_all [execOp,Instr.field,run_underlying,asAgg]
 grind
theorem k9 {e:Ty} {v:Value} {xs:List e.den} {l h:Int} (hx:od e w v xs) (hl:0<=l) (GY:l<=h) (hh:h<=xs.length):od e w (jB e.size v l h) ((xs.drop l.toNat).take (h.toNat - l.toNat)):=by
 letI:=e.rep;have mM:aQ.size e.den=e.size:=Ty.gw e;have:=Is.slice (α:=e.den) hx hl GY hh;rw [mM] at this;assumption
theorem xS {e:Ty} {x:Operand} {lo hi:Option Operand} {t et:TypeId} {v:Value} {xs:List e.den} {l h:Int} {ie:TypeInfo} (OV:od e w v xs) (hl:0<=l) (GY:l<=h) (hh:h<=xs.length) (ho:o.op= .slice t x lo hi none)
  (ht:P.underlying t=some (.slice et)) (r8:P.info? et=some ie) (hs:Nat.beq e.size ie.size=true) (hx:a.eval x=v) (h1:(lo=none/\l=0)\/∃ y,lo=some y/\a.eval y= .int .i64 l) (h2:(hi=none/\h=xs.length)\/∃ y,hi=some y/\a.eval y= .int .i64 h):
  (execOp a.eval o).run P w= .ok (.value (jB e.size v l h)) w:=by
 letI:=e.rep;have mM:aQ.size e.den=e.size:=Ty.gw e;have:=af5 (α:=e.den) (P:=P) (ρ:=a.eval) OV hl GY hh ho ht (by simp_all) hx h1 h2
 grind
def rE (a:Act) (q:Option Operand) (l:Option Int):Prop:=(q=none/\l=none)\/∃ y n,q=some y/\l=some n/\a.eval y= .int .i64 n
theorem rE.get {q:Option Operand} {l:Option Int} {m:Int} (h:rE a q l):(q=none/\bX l m=m)\/∃ y,q=some y/\a.eval y= .int .i64 (bX l m):=by
 rcases h with ⟨rfl,rfl⟩| ⟨y,n,rfl,rfl,h⟩;exact .inl ⟨rfl,rfl⟩;exact .inr ⟨y,rfl,h⟩
theorem Cg (S:df n W F b E g w s a) {x:Operand} {t:TypeId} {c:Cl} {qlo qhi:Option Operand} {lo hi:Option Int} (ho:o.op= .slice t x qlo qhi none) (r:ck E g c (a.eval x)) (h1:rE a qlo lo) (h2:rE a qhi hi) (h:pC P b s t c lo hi K):ER P o a w E g K:=by
 unfold pC at h;split at h
 .rename_i ht;split at h
  .rename_i z;obtain ⟨hl,GY,hh,h⟩:=h;obtain ⟨hx,hz⟩:=r;refine ⟨_,.str _,OG hl GY hh ho ht hx h1.get h2.get,⟨rfl,?_⟩,h⟩;have Xe:z.size<=maxLen:=hz;show (z.extract _ _).size<=maxLen;rw [ByteArray.size_extract];omega
  .cases h
 .rename_i et ht;split at h
  .cases h
  .rename_i ie mN;split at h
   .rename_i e xs;split at h
    .rename_i hs;obtain ⟨hl,GY,hh,h⟩:=M3 h;have r':od e g (a.eval x) xs:=r;exact ⟨_,.c (.d e _),xS (r'.mono S.m) hl GY hh ho ht mN hs rfl h1.get h2.get,k9 r' hl GY hh,h⟩
    .cases h
   .obtain ⟨hE,_⟩:=r;split at h
    .rename_i eD;split at h
     .rename_i hs;obtain ⟨hl,GY,hh,h⟩:=Zg h;have hi:=pK (j5 S hE eD);obtain ⟨q,m,cc,hq,_⟩:=n9 (k9 hi hl GY hh);exact ⟨_,.c (.os _ _ _ _),xS hi hl GY hh ho ht mN hs rfl h1.get h2.get,(show ck E g (.os _ _ _ _) _ from ⟨_,hE,rfl,q,m,cc,hq⟩),h⟩
     .cases h
    .rename_i eD;split at h
     .rename_i hs;obtain ⟨hl,GY,hh,h⟩:=M3 h;have hi:=lO S hE eD;exact ⟨_,.c (.d _ _),xS (hi.mono S.m) hl GY hh ho ht mN hs rfl h1.get h2.get,k9 hi hl GY hh,h⟩
     .cases h
    .cases h
   .cases h
 .rename_i m et ht;split at h
  .cases h
  .rename_i ie mN;split at h
   .rename_i l off;obtain ⟨hmx,hl,hlm,GY,hh,h⟩:=h;obtain ⟨bb,hE,hx⟩:=r;have hb:(Instr.sliceBounds false m m (qlo.map a.eval) (qhi.map a.eval) none).run P w= .ok ((bX lo 0).toNat,(bX hi m).toNat,m) w:=by
     have g1:=h1.get (m:=0);have g2:=h2.get (m:=(m:Int));have e0:0<=bX hi m:=by omega
     rcases g1 with ⟨rfl,e1⟩| ⟨y,rfl,hy⟩<;>rcases g2 with ⟨rfl,e2⟩| ⟨z,rfl,hz⟩<;>
      simp_all [Instr.sliceBounds,Instr.sliceBound,asIntOf]<;>omega
    have ja:¬m=(bX lo 0).toNat:=by omega
    refine ⟨.slice (some ((⟨bb,off,none⟩:Addr).add ((bX lo 0).toNat*ie.size))) ((bX hi m).toNat - (bX lo 0).toNat) (m - (bX lo 0).toNat),.c (.sc l _ _),?_,⟨bb,m - (bX lo 0).toNat,hE,⟨by omega,by unfold maxLen;omega⟩,?_⟩,h⟩;simp [execOp,ho,hx,Instr.sliceAt,Instr.sureAddr,run_underlying ht,hb,sizeOf,typeInfo,mN,ja]
    .congr 2;unfold Addr.add;split
     .rename_i hz;simp
     .rfl
   .cases h
 .cases h
theorem Gi {x i:Operand} {t:TypeId} {z:ByteArray} {k:IntKind} {m:Int} (ho:o.op= .index t x i) (ht:P.underlying t=some .string) (hx:a.eval x= .string z) (hi:a.eval i= .int k m) (h0:0<=m) (h1:m< z.size) (h:K (.k (.int .u8 ((jj z m).toNat:Int)))):ER P o a w E g K:=by
 refine ⟨.int .u8 (jj z m).toNat,_,?_,dH ?_,h⟩
 .simp_all [execOp,Instr.index,asIntOf,run_underlying,jj]
 .have h2:(jj z m).toNat< 256:=UInt8.toNat_lt _;show (0:Int)<=((jj z m).toNat:Int)/\((jj z m).toNat:Int)<=255;omega
theorem xU {l:List Cl} {vs:List Value} {cs:List Cl} {us:List Value} {off:Nat} (hc:bz E g cs us) (hv:bz E g l vs):bz E g (Sz cs off l) (us.take off++(vs++us.drop (off+vs.length))):=by
 rw [hv.length];exact (hc.take off).app (hv.app (hc.drop _))
theorem Gn {w0:World} {ys:List UInt8}:∀ (n i:Nat),i+n<=ys.length->(kC n).rep.rel w0 (((ys.drop i).take n).map λb=>Value.int .u8 (b.toNat:Int)) (rowOf ys n i)
 | 0,i,_=>rfl
 | n+1,i,h=>by
  have hi:i< ys.length:=by omega
  rw [bM hi,List.take_succ_cons,cw];refine ⟨[_],_,rfl,?_,Gn n (i+1) (by omega)⟩;show _= [Value.int .u8 ((ys.getD i 0).toNat:Int)]
  grind
theorem My {x:Operand} {t:TypeId} {c:Cl} {K:SV->Prop} (ho:o.op= .sliceToArrayPointer t x) (r:ck E g c (a.eval x)) (h:Kb P t c K):ER P o a w E g K:=by
 unfold Kb at h;split at h
 .rename_i n e2 e xs0 ht;split at h
  .rename_i ys hy;obtain ⟨q,e1⟩:=eB hy;subst q;obtain rfl:ys=xs0:=e1;have h9:=dc h;obtain ⟨hn,hlen,hk⟩:=h9;have hn0:0< n:=by simp_all
   have hi:od .u8 g (a.eval x) ys:=r;rcases (@dE UInt8 Ty.u8.rep g _ _).1 hi with ⟨_,e0⟩| ⟨ad,cp,hx,hc,hm,h3⟩
   .grind
   .refine ⟨.pointer (some ad),.c (.de (kC n) [rowOf ys n 0] 0 0),?_,?_,hk⟩
    .simp [execOp,ho,Instr.arrayAt,run_underlying ht,hx];omega
    .refine (show ck E g (.de (kC n) [rowOf ys n 0] 0 0) _ from ⟨by grind,.slice (some ad) 1 1,?_,by simp [km,nV,Addr.add]⟩);refine (@dE (kC n).den (kC n).rep g _ _).2 (.inr ⟨ad,1,rfl,aG _,by omega,λi y hi=>?_⟩);have Ew:i=0:=by
      grind
     refine ⟨((ys.drop 0).take n).map λb=>Value.int .u8 (b.toNat:Int),λj v hj=>?_,by grind [Gn]⟩;rw [o9,dj,mT] at hj;split at hj
     .rw [aq (by omega)] at hj;obtain ⟨cs,h4,h5⟩:=h3 j (ys[j]'(by omega)) (aq (by omega));have h6:cs= [Value.int .u8 ((ys[j]'(by omega)).toNat:Int)]:=h5;subst h6;have h7:=h4 0 _ rfl;simp_all [aQ.size]
     grind
  grind
 grind
theorem Ts {e:Ty} {v:Value} {xs:List e.den} {m:Nat} (hx:od e g v xs) (hm:m<=xs.length):∃ a cp,v= .slice a xs.length cp/\od e g (.slice a m m) (xs.take m):=by
 rcases (@dE e.den e.rep g _ _).1 hx with ⟨rfl,rfl⟩| ⟨ad,cp,rfl,hc,JI,h3⟩
 .grind
 .refine ⟨some ad,cp,rfl,(@dE e.den e.rep g _ _).2 (.inr ⟨ad,m,by rw [aF,py hm],by rw [aF];omega,by omega,λi x hi=>?_⟩)⟩
  grind
theorem Mm {x y:Operand} {t:TypeId} {c:Cl} {qlo qhi:Option Operand} {lo hi:Option Int} {m:Int} {K:SV->Prop} (ho:o.op= .slice t x qlo qhi (some y)) (r:ck E g c (a.eval x)) (h1:rE a qlo lo) (h2:rE a qhi hi) (hy:a.eval y= .int .i64 m) (mw:bt g w) (h:H8 P t c lo hi m K):ER P o a w E g K:=by
 unfold H8 at h;split at h
 .rename_i et e xs hv ht;split at h
  .have h9:=dc h;obtain ⟨hs,hl,GY,hhm,hmx,hk⟩:=h9;have r':od e g (a.eval x) xs:=r;obtain ⟨ad,cp,hx,r8⟩:=Ts (m:=m.toNat) r' (by omega);have wk:(xs.take m.toNat).length=m.toNat:=by grind
   have h3:=k9 (l:=bX lo 0) (h:=hv) r8 hl GY (by omega);have e2:((xs.take m.toNat).drop (bX lo 0).toNat).take (hv.toNat - (bX lo 0).toNat)=(xs.drop (bX lo 0).toNat).take (hv.toNat - (bX lo 0).toNat):=by
    grind [lQ]
   rw [e2] at h3;refine ⟨_,.c (.d e _),?_,h3,hk⟩;have Qq:xs.length<=cp:=by
    rcases (@dE e.den e.rep g _ _).1 r' with ⟨e5,e6⟩| ⟨ad2,cp2,e5,hc,_,_⟩
    .grind
    grind
   obtain ⟨z,rfl,hz⟩:∃ z,qhi=some z/\a.eval z= .int .i64 hv:=by
    rcases h2 with ⟨_,e0⟩| ⟨z,n,e1,e0,hz⟩;cases e0
    grind
   have c1:(Instr.sliceBound (.int .i64 m) cp .slice3Acap).run P w= .ok m.toNat w:=by
    simp [Instr.sliceBound,asIntOf];omega
   have c2:(Instr.sliceBound (.int .i64 hv) m.toNat .slice3B).run P w= .ok hv.toNat w:=by
    simp [Instr.sliceBound,asIntOf];omega
   have hb:(Instr.sliceBounds true xs.length cp (qlo.map a.eval) (some (.int .i64 hv)) (some (.int .i64 m))).run P w= .ok ((bX lo 0).toNat,hv.toNat,m.toNat) w:=by
    have g1:=h1.get (m:=0);rcases g1 with ⟨rfl,e1⟩| ⟨y,rfl,hy1⟩
    .simp_all [Instr.sliceBounds]
    .have c3:(Instr.sliceBound (.int .i64 (bX lo 0)) hv.toNat .slice3C).run P w= .ok (bX lo 0).toNat w:=by
      simp [Instr.sliceBound,asIntOf];omega
     simp_all [Instr.sliceBounds]
   simp_all [execOp,Instr.sliceAt,run_underlying,Instr.slice,sizeOf,typeInfo,jB]
  grind
 grind
end
end Go.Lm

