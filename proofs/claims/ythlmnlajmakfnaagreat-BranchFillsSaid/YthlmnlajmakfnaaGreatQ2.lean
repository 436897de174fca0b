/- Texts of mine, laid together: LmVd LmVe LmEqS LmEqB LmVf LmVg LmVh LmVi LmVj LmVk LmVl LmVlz LmVka LmVm. -/
import Derived.Test.YthlmnlajmakfnaaGreatQ1
import Derived.ChangeKeysEq
import Derived.Laws.StructEq
import Derived.Laws.Cover3
import Derived.Laws.Pointers
import Derived.Laws.Small
import Derived.Lib.AppendStr
import Derived.Great.BuildSlice
set_option linter.unusedVariables false
namespace Go.Lm
open Go Go.RowKit

abbrev Ct := List SV → List HO → (SV → List HO → Prop) → Prop
def lookC : List (Nat × Ct) → Nat → Ct
 | [], _ => fun _ _ _ => False
 | (k, c) :: r, f => bif Nat.beq k f then c else lookC r f
mutual
def Cl.labels : Cl → List Nat
 | .p l _ | .o l | .os l _ _ _ | .oe l _ _ _ | .m l | .sc l _ _ | .kl l _ => [l]
 | .fn _ caps => Cl.labelss caps
 | .ifc _ c => c.labels
 | _ => []
def Cl.labelss : List Cl → List Nat
 | [] => []
 | c :: r => c.labels ++ Cl.labelss r
end
def S1.labels : S1 → List Nat
 | .c x => x.labels
 | .agg l => Cl.labelss l
def SV.labels : SV → List Nat
 | .v x => x.labels
 | .tup l => l.flatMap S1.labels
 | .any => []
def HO.labels : HO → List Nat
 | .cells _ cs => Cl.labelss cs
 | _ => []
mutual
def Cl.ren (r : Nat → Option Nat) : Cl → Cl
 | .p l off => match r l with
  | some l' => .p l' off
  | none => .unk
 | .o l => match r l with
  | some l' => .o l'
  | none => .unk
 | .os l sz lo hi => match r l with
  | some l' => .os l' sz lo hi
  | none => .unk
 | .oe l sz i off => match r l with
  | some l' => .oe l' sz i off
  | none => .unk
 | .m l => match r l with
  | some l' => .m l'
  | none => .unk
 | .sc l off n => match r l with
  | some l' => .sc l' off n
  | none => .unk
 | .fn f caps => .fn f (Cl.rens r caps)
 | .ifc t c => .ifc t (c.ren r)
 | .k v => .k v
 | .d e x => .d e x
 | .de e x i off => .de e x i off
 | .kl l v => match r l with
  | some l' => .kl l' v
  | none => .unk
 | .unk => .unk
def Cl.rens (r : Nat → Option Nat) : List Cl → List Cl
 | [] => []
 | c :: l => c.ren r :: Cl.rens r l
end
def S1.ren (r : Nat → Option Nat) : S1 → S1
 | .c x => .c (x.ren r)
 | .agg l => .agg (Cl.rens r l)
def S1.rens (r : Nat → Option Nat) : List S1 → List S1
 | [] => []
 | a :: l => a.ren r :: S1.rens r l
def SV.ren (r : Nat → Option Nat) : SV → SV
 | .v x => .v (x.ren r)
 | .tup l => .tup (S1.rens r l)
 | .any => .any
def HO.ren (r : Nat → Option Nat) : HO → HO
 | .cells t cs => .cells t (Cl.rens r cs)
 | o => o
def memN : Nat → List Nat → Bool
 | _, [] => false
 | n, m :: r => bif Nat.beq n m then true else memN n r
def nodupN : List Nat → Bool
 | [] => true
 | a :: r => !memN a r && nodupN r
def idxN : List Nat → Nat → Option Nat
 | [], _ => none
 | m :: r, n => bif Nat.beq m n then some 0 else match idxN r n with
  | some i => some (i + 1)
  | none => none
def reachL (ob : Nat → HO) : Nat → List Nat → List Nat → List Nat
 | 0, _, done => done
 | _ + 1, [], done => done
 | f + 1, l :: r, done => bif memN l done then reachL ob f r done else reachL ob f ((ob l).labels ++ r) (done ++ [l])
def labelsAll : List SV → List Nat
 | [] => []
 | v :: r => v.labels ++ labelsAll r
def opds (b : Bs) (s : Ov) : List Operand → Option (List SV)
 | [] => some []
 | x :: r => match opd b s x with
  | some v => match opds b s r with
   | some l => some (v :: l)
   | none => none
  | none => none
def backL (ls : List Nat) (n : Nat) (l : Nat) : Option Nat := match ls[l]? with
 | some m => some m
 | none => some (n + (l - ls.length))
def layBack (ls0 : List Nat) (n0 : Nat) : List Nat → List HO → Ov → Ov
 | _, [], s => s
 | l :: ls, o :: H, s => layBack ls0 n0 ls H (s.setO l (o.ren (backL ls0 n0)))
 | [], o :: H, s => layBack ls0 n0 [] H (s.new (o.ren (backL ls0 n0)))
def funcOk (P : Program) (f : FuncId) : Bool := match P.funcs[f]? with
 | some fn => !(fn.name == "runtime.NumGoroutine") && !fn.body.isNone
 | none => false
def factC : Cl → Prop → Prop
 | .k (.int k n), p => inK k n → p
 | .k (.string z), p => z.size ≤ 9223372036854775807 → p
 | .d _ x, p => x.length ≤ 9223372036854775807 → p
 | _, p => p
def factCs : List Cl → Prop → Prop
 | [], p => p
 | c :: r, p => factC c (factCs r p)
def factS : S1 → Prop → Prop
 | .c c, p => factC c p
 | .agg l, p => factCs l p
def factSs : List S1 → Prop → Prop
 | [], p => p
 | c :: r, p => factS c (factSs r p)
def factV : SV → Prop → Prop
 | .v x, p => factS x p
 | .tup l, p => factSs l p
 | .any, p => p
def factVs : List SV → Prop → Prop
 | [], p => p
 | c :: r, p => factV c (factVs r p)
def callV (ct : FuncId → Ct) (b : Bs) (s : Ov) (f : FuncId) (args : List SV) (K : SV → Ov → Prop) : Prop :=
 let ls := reachL (b.obj s) 1000 (labelsAll args) []
 if nodupN ls && ls.all (fun l => Nat.blt l s.n) then
  ct f (args.map (·.ren (idxN ls))) (ls.map fun l => (b.obj s l).ren (idxN ls)) fun r H' =>
   (if Nat.ble ls.length H'.length then factV r (K (r.ren (backL ls s.n)) (layBack ls s.n ls H' s)) else False)
 else False
def sameC : Cl → Cl → Prop → Prop
 | .k v, .k v', p => v = v' ∧ p
 | .o l, .o l', p => if Nat.beq l l' then p else False
 | .p l o, .p l' o', p => if Nat.beq l l' && Nat.beq o o' then p else False
 | .kl l v, .kl l' v', p => if Nat.beq l l' then v = v' ∧ p else False
 | _, _, _ => False
def sameCs : List Cl → List Cl → Prop → Prop
 | [], [], p => p
 | c :: l, d :: r, p => sameC c d (sameCs l r p)
 | _, _, _ => False
def sameO : HO → HO → Prop → Prop
 | .cells t cs, .cells t' cs', p => if Nat.beq t t' then sameCs cs cs' p else False
 | .sl t e x, .sl t' _ x', p => if Nat.beq t t' then (match asD e x' with
  | some y => x = y ∧ p
  | none => False) else False
 | .gone, .gone, p => p
 | _, _, _ => False
def sameOs : List HO → List HO → Prop → Prop
 | [], [], p => p
 | a :: l, b :: r, p => sameO a b (sameOs l r p)
 | _, _, _ => False
def callR (ct : FuncId → Ct) (b : Bs) (s : Ov) (f : FuncId) (args : List SV) (K : SV → Ov → Prop) : Prop :=
 let ls := reachL (b.obj s) 1000 (labelsAll args) []
 if nodupN ls && ls.all (fun l => Nat.blt l s.n && (b.obj s l).labels.all fun q => memN q ls) then
  ct f (args.map (·.ren (idxN ls))) (ls.map fun l => (b.obj s l).ren (idxN ls)) fun r H' =>
   sameOs H' (ls.map fun l => (b.obj s l).ren (idxN ls)) (factV r (K (r.ren (backL ls s.n)) s))
 else False

structure Vx where
 P : Program
 ct : List (Nat × Ct)
 ty : List (Nat × Ty)
 /-- Which functions' arguments are held from then on. -/
 hold : List Nat := []
 /-- Which functions leave the objects that they are given. -/
 ro : List Nat := []
 wrap : Bool := false
 /-- Which loops are gone through round by round, and how often at most. -/
 unr : List (Nat × Nat) := []
 /-- The type of strings.Builder, and of bytes. -/
 bld : Option (TypeId × TypeId) := none
 /-- The types of an upper branch whose map is made. -/
 um : Option UTy := none
 /-- Is a row of one's own laid into a node without being held? -/
 pend : Bool := false
def bldOf (q : Option (TypeId × TypeId)) (t : TypeId) (z : List Cl) : Option TypeId := match q, z with
 | some (t', e), [.k (.pointer none), .k (.slice none 0 0)] => if Nat.beq t' t then some e else none
 | _, _ => none
def lookN : List (Nat × Nat) → Nat → Option Nat
 | [], _ => none
 | (k, v) :: s, t => bif Nat.beq k t then some v else lookN s t
def lookT : List (Nat × Ty) → Nat → Option Ty
 | [], _ => none
 | (k, v) :: s, t => bif Nat.beq k t then some v else lookT s t
def strsOf : (off n : Nat) → List Cl → Option (List ByteArray)
 | 0, 0, _ => some []
 | 0, n + 1, c :: r => match c with
  | .k (.string z) => match strsOf 0 n r with
   | some l => some (z :: l)
   | none => none
  | _ => none
 | off + 1, n, _ :: r => strsOf off n r
 | _, _, [] => none
def holdCs (b : Bs) : List Cl → Ov → (List Cl → Ov → Prop) → Prop
 | [] => fun s k => k [] s
 | c :: r => fun s k => match c with
  | .o l => (match b.obj s l with
   | .sl t e xs => holdCs b r (s.setO l (.held t e xs)) fun r' s' => k (.d e xs :: r') s'
   | .held _ e xs => holdCs b r s fun r' s' => k (.d e xs :: r') s'
   | _ => False)
  | .sc l off n => (match b.obj s l with
   | .cells _ cs => (match strsOf off n cs with
    | some zs => holdCs b r (s.setO l .gone) fun r' s' => k (.d .str zs :: r') s'
    | none => False)
   | _ => False)
  | c => holdCs b r s fun r' s' => k (c :: r') s'
def holdVs (b : Bs) : List SV → Ov → (List SV → Ov → Prop) → Prop
 | [] => fun s k => k [] s
 | v :: r => fun s k => match v with
  | .v (.c c) => holdCs b [c] s fun cs s => match cs with
   | [c'] => holdVs b r s fun r' s' => k (.v (.c c') :: r') s'
   | _ => False
  | .v (.agg l) => holdCs b l s fun cs s => holdVs b r s fun r' s' => k (.v (.agg cs) :: r') s'
  | v => holdVs b r s fun r' s' => k (v :: r') s'
def listOf (b : Bs) (s : Ov) (e : Ty) (x : Cl) : Option (List e.den) := match x with
 | .k (.slice none 0 0) => some []
 | .d _ xs => asD e xs
 | .o l => match b.obj s l with
  | .sl _ _ xs | .held _ _ xs => asD e xs
  | _ => none
 | _ => none
def srcV (b : Bs) (s : Ov) (e : Ty) (x : Cl) (K : List e.den → Prop) : Prop := match x with
 | .os q sz lo hi => match b.obj s q with
  | .sl _ e' xs => if Nat.beq e'.size sz then (0 ≤ lo ∧ lo ≤ hi ∧ hi ≤ xs.length ∧ match asD e ((xs.drop lo.toNat).take (hi.toNat - lo.toNat)) with
   | some ys => K ys
   | none => False) else False
  | _ => False
 | x => match listOf b s e x with
  | some ys => K ys
  | none => False
def ofAll (e : Ty) : Nat → List Cl → Option (List e.den)
 | 0, [] => some []
 | 0, _ => none
 | n + 1, l => match e.of l with
  | some (x, r) => match ofAll e n r with
   | some xs => some (x :: xs)
   | none => none
  | none => none
def elemT (X : Vx) (t : TypeId) : Option (TypeId × Ty × TypeInfo) := match X.P.underlying t with
 | some (.slice et) => match X.P.info? et, lookT X.ty et with
  | some ie, some e => if Nat.beq e.size ie.size then some (et, e, ie) else none
  | _, _ => none
 | _ => none
def appOk (X : Vx) (et : TypeId) (e : Ty) : Bool := match X.P.info? et with
 | some ie => Nat.blt 0 e.size && (match ie.zero with
  | some z => Nat.beq z.cells.size e.size
  | none => false)
 | none => false
def isU8 (X : Vx) (et : TypeId) : Bool := match X.P.info? et with
 | some ie => Nat.beq ie.size 1 && (match ie.zero with
  | some (.int .u8 0) => Nat.beq ie.bytes 1
  | _ => false)
 | none => false
def appStrV (X : Vx) (b : Bs) (s : Ov) (t t2 : TypeId) (x y : Cl) (K : SV → Ov → Prop) : Prop := match X.P.underlying t, X.P.underlying t2, y with
 | some (.slice et), some .string, .k (.string z) => if isU8 X et then (match x with
  | .k (.slice none 0 0) => z.size ≤ 140737488355328 ∧ K (.c (.o s.n)) (s.new (.sl et .u8 z.data.toList))
  | .o l => match b.obj s l with
   | .sl et' _ xs => if Nat.beq et' et then (match asD .u8 xs with
    | some xs => xs.length + z.size ≤ 140737488355328 ∧ K (.c (.o s.n)) ((s.setO l .gone).new (.sl et .u8 (xs ++ z.data.toList)))
    | none => False) else False
   | _ => False
  | _ => False) else False
 | _, _, _ => False
def appendV (X : Vx) (b : Bs) (s : Ov) (t t2 : TypeId) (x y : Cl) (K : SV → Ov → Prop) : Prop := match elemT X t with
 | none => False
 | some (et, e, ie) => if Nat.beq t t2 then (srcV b s e y fun ys => match x with
   | .k (.slice none 0 0) => if appOk X et e then ys.length * ie.bytes ≤ 140737488355328 ∧ K (.c (.o s.n)) (s.new (.sl et e ys)) else False
   | .o l => match b.obj s l with
    | .sl et' _ xs => if Nat.beq et' et then (match asD e xs with
     | some xs => if appOk X et e then (xs.length + ys.length) * ie.bytes ≤ 140737488355328 ∧ xs.length + ys.length ≤ 9223372036854775807 ∧ K (.c (.o s.n)) ((s.setO l .gone).new (.sl et e (xs ++ ys))) else False
     | none => False) else False
    | _ => False
   | _ => False) else appStrV X b s t t2 x y K
def fillV (place : Nat → Option (Nat × Nat)) : List Cl → List (Nat × S1) → Option (List Cl)
 | cs, [] => some cs
 | cs, (i, v) :: r => match place i with
  | none => none
  | some (off, size) => if Nat.beq v.cells.length size then (if Nat.ble (off + size) cs.length then fillV place (setCs cs off v.cells) r else none) else none
def partsV (b : Bs) (s : Ov) : List (Nat × Operand) → Option (List (Nat × S1))
 | [] => some []
 | (i, x) :: r => match opd b s x with
  | some (.v v) => match partsV b s r with
   | some l => some ((i, v) :: l)
   | none => none
  | _ => none
def buildV (P : Program) (t : TypeId) (ps : List (Nat × S1)) (K : SV → Prop) : Prop := match zeroCs P t with
 | none => False
 | some z => match P.underlying t with
  | some (.struct fs) => match fs.toList.mapM fun f => (P.info? f.type).map fun i => (f.offset, i.size) with
   | some places => match fillV (fun i => places.toArray[i]?) z ps with
    | some cs => K (.v (.agg cs))
    | none => False
   | none => False
  | some (.array _ e) => match P.info? e with
   | some ie => match fillV (fun i => some (i * ie.size, ie.size)) z ps with
    | some cs => K (.v (.agg cs))
    | none => False
   | none => False
  | _ => False
def buildScV (X : Vx) (s : Ov) (t : TypeId) (n : Nat) (ps : List (Nat × S1)) (K : SV → Ov → Prop) : Prop := match X.P.underlying t with
 | some (.slice et) => match X.P.info? et, zeroCs X.P et with
  | some ie, some z => if Nat.ble (n * ie.size) 16777216 && (Nat.blt 0 ie.size && Nat.blt 0 n) && Nat.beq z.length ie.size then (match fillV (fun i => some (i * ie.size, ie.size)) (List.replicate n z).flatten ps with
   | none => False
   | some cs => K (.c (.sc s.n 0 n)) (s.new (.cells et cs))) else False
  | _, _ => False
 | _ => False
def buildSliceV (X : Vx) (b : Bs) (s : Ov) (t : TypeId) (n : Nat) (ps : List (Nat × S1)) (K : SV → Ov → Prop) : Prop := match elemT X t with
 | none => buildScV X s t n ps K
 | some (et, e, ie) => match zeroCs X.P et with
  | none => False
  | some z => if Nat.ble (n * ie.size) 16777216 && (Nat.blt 0 ie.size || Nat.beq n 0) && Nat.beq z.length ie.size then (match fillV (fun i => some (i * ie.size, ie.size)) (List.replicate n z).flatten ps with
   | none => False
   | some cs => holdCs b cs s fun cs' s' => match ofAll e n cs' with
    | some xs => K (.c (.o s'.n)) (s'.new (.sl et e xs))
    | none => False) else False
def litV (X : Vx) (b : Bs) (s : Ov) (src dst e : TypeId) (l : Nat) (K : SV → Ov → Prop) : Prop := if Nat.beq src dst then (match X.P.underlying e with
 | some (.int .u8) => match b.obj s l with
  | .sl et _ xs => if Nat.beq et e then (match asD .u8 xs with
   | some ys => ys ≠ [] ∧ K (.c (.d .u8 ys)) (s.setO l .gone)
   | none => False) else False
  | _ => False
 | _ => False) else False
def convV (X : Vx) (b : Bs) (s : Ov) (src dst : TypeId) (x : SV) (K : SV → Ov → Prop) : Prop := match X.P.underlying src, X.P.underlying dst, x with
 | some (.int _), some (.int k), .v (.c (.k (.int k' n))) => if IntKind.beq k k' then K x s else (inK k (k.wrap n) → K (.k (.int k (k.wrap n))) s)
 | some .string, some .string, .v (.c (.k (.string _))) => K x s
 | some (.int _), some .string, .v (.c (.k (.int _ n))) => (Utf8.encode n).size ≤ 9223372036854775807 ∧ K (.str (Utf8.encode n)) s
 | some .string, some (.slice e), .v (.c (.k (.string z))) => match X.P.underlying e with
  | some (.int .u8) => K (.c (.d .u8 z.data.toList)) s
  | _ => False
 | some (.slice e), some .string, .v (.c y) => match X.P.underlying e with
  | some (.int .u8) => match listOf b s .u8 y with
   | some l => K (.str (bstr l)) s
   | none => False
  | _ => False
 | some (.slice _), some (.slice e), .v (.c (.o l)) => litV X b s src dst e l K
 | _, _, _ => False
def mmV (mn : Bool) (x y : SV) (K : SV → Prop) : Prop := match x, y with
 | .v (.c (.k (.int k m))), .v (.c (.k (.int k' n))) => if IntKind.beq k k' then K (.k (.int k (if mn then min m n else max m n))) else False
 | _, _ => False

def kkOf (P : Program) (t : TypeId) : Option Kk := match P.underlying t with
 | some (.int .i64) => some .int
 | some .string => some .str
 | _ => none
def dTy (X : Vx) (t : TypeId) : Option Ty := match X.P.underlying t with
 | some (.int k) => some (.int k)
 | some .string => some .str
 | some .bool => some .bool
 | _ => lookT X.ty t
def zOk (e : Ty) (z : Value) : Bool := match z with
 | .agg _ => e.row
 | v => !e.row && v.oneCell'
def dflV (P : Program) (t : TypeId) (e : Ty) : Option e.den := match P.info? t with
 | some i => match i.zero with
  | some z => if zOk e z then (match constCs z.cells.toList with
   | some zl => match e.of zl with
    | some (x, []) => some x
    | _ => none
   | none => none) else none
  | none => none
 | none => none
def keyOfCl : (k : Kk) → Cl → Option k.den
 | .int, c => match c with
  | .k (.int .i64 n) => some n
  | _ => none
 | .str, c => match c with
  | .k (.string z) => some z
  | _ => none
def s1Of (e : Ty) (x : e.den) : Option S1 := if e.row then some (.agg (e.cells x)) else match e.cells x with
 | [c] => some (.c c)
 | _ => none
def s1In (e : Ty) : S1 → Bool
 | .agg _ => e.row
 | .c _ => !e.row
def nilZero (P : Program) (t : TypeId) : Bool := match P.info? t with
 | some i => match i.zero with
  | some (.pointer none) => true
  | _ => false
 | none => false
def intZero (P : Program) (t : TypeId) : Bool := match P.info? t with
 | some i => match i.zero with
  | some (.int .i64 0) => true
  | _ => false
 | none => false
def okV2 (c : Bool) (x : Cl) (q : Bool) : SV := match c with
 | true => .tup [.c x, .c (.k (.bool q))]
 | false => .v (.c x)
def upLookB (X : Vx) (T : UTy) (mb : Nat) (L : List (Int × LNode)) (k et : TypeId) (l : Nat) (v : Value) (ky : Cl) (c : Bool) (K : SV → Prop) : Prop :=
 if Nat.beq k T.kI then (if nilZero X.P et then (match ky with
  | .k (.int .i64 r) => v = .map (some mb) ∧ (getK L r = none → K (okV2 c (.k (.pointer none)) false)) ∧ ∀ m, getK L r = some m → NodeOk m → K (okV2 c (.kl l (.pointer (some ⟨m.blk, 0, none⟩))) true)
  | _ => False) else False)
 else if Nat.beq k T.kS && intZero X.P et then (match ky with
  | .k (.string z) => ∃ r m, getK L r = some m ∧ m.vi = v ∧ (getK m.ents z = none → K (okV2 c (.k (.int .i64 0)) false)) ∧ ∀ x, getK m.ents z = some x → inK .i64 x → K (okV2 c (.k (.int .i64 x)) true)
  | _ => False)
 else False
def upLookV (X : Vx) (b : Bs) (s : Ov) (k et : TypeId) (l : Nat) (v : Value) (ky : Cl) (c : Bool) (K : SV → Prop) : Prop := match b.obj s l with
 | .up T _ _ mb _ L => if kkOk X.P T.kI .int && kkOk X.P T.kS .str then upLookB X T mb L k et l v ky c K else False
 | .ab (.fz T _ _ mb _ L _ _) => if kkOk X.P T.kI .int && kkOk X.P T.kS .str then upLookB X T mb L k et l v ky c K else False
 | _ => False
def reAgg (u : S1) (cs : List Cl) : S1 := match u, cs with
 | .c _, [d] => .c d
 | _, _ => .agg cs
theorem reAgg_cells (u : S1) (cs : List Cl) : (reAgg u cs).cells = cs := by
 unfold reAgg
 split <;> rfl
def nodeSet (m : LNode) (off : Nat) (v : S1) (K : LNode → Prop) : Prop := match off, v with
 | 3, .agg [.k (.int .i64 x), .k (.int .i64 y), .k (.int .i64 z)] => K { m with mode := x, uid := y, gid := z }
 | 6, .c (.d e xs) => match asD .u8 xs with
  | some ys => ∀ vd, K { m with vd := vd, data := ys }
  | none => False
 | 8, .c (.d e xs) => match asD xaTy xs with
  | some ys => ∀ vx, K { m with vx := vx, xattrs := ys.map xaO }
  | none => False
 | 9, .c (.k (.bool q)) => K { m with opq := q }
 | 11, .c (.k (.int .i64 x)) => K { m with up := x }
 | 12, .c (.k (.int .i64 x)) => K { m with links := x }
 | _, _ => False
def nodeStoreV (P : Program) (b : Bs) (s : Ov) (t : TypeId) (l bb off : Nat) (v : S1) (K : Ov → Prop) : Prop := match P.info? t with
 | none => False
 | some i => if Nat.beq v.cells.length i.size then (match b.obj s l with
  | .up T q1 q2 mb nx L => if kkOk P T.kI .int && kkOk P T.kS .str then (∃ r m, getK L r = some m ∧ m.blk = bb ∧ nodeSet m off v fun m' => K (s.setO l (.up T q1 q2 mb nx (setK L r m')))) else False
  | _ => False) else False
def nextStoreV (P : Program) (b : Bs) (s : Ov) (t : TypeId) (l off : Nat) (v : S1) (K : Ov → Prop) : Prop := match P.info? t with
 | none => False
 | some i => if Nat.beq v.cells.length i.size then (match b.obj s l, off, v with
  | .up T q1 q2 mb _ L, 3, .c (.k (.int .i64 z)) => if kkOk P T.kI .int && kkOk P T.kS .str then K (s.setO l (.up T q1 q2 mb z L)) else False
  | _, _, _ => False) else False
def upPutV (X : Vx) (b : Bs) (s : Ov) (k : TypeId) (l : Nat) (v : Value) (ky : Cl) (u : S1) (K : Ov → Prop) : Prop := match b.obj s l with
 | .up T q1 q2 mb nx L => if kkOk X.P T.kI .int && (kkOk X.P T.kS .str && Nat.beq k T.kS) then (match ky, u with
  | .k (.string z), .c (.k (.int .i64 x)) => ∃ r m, getK L r = some m ∧ m.vi = v ∧ m.kind = 1 ∧ m.ents.length < 9223372036854775807 ∧ K (s.setO l (.up T q1 q2 mb nx (setK L r { m with ents := putK m.ents z x })))
  | _, _ => False) else False
 | _ => False
def newNode (T : UTy) (b : Bs) (s : Ov) (u : S1) (k : LNode → Ov → Prop) : Prop := match u with
 | .c (.p a 0) => match b.obj s a with
  | .cells t cs => if Nat.beq t T.N then (match cs with
   | [.k (.slice none 0 0), .k (.int .i64 0), .k (.int .i64 kd), .k (.int .i64 mo), .k (.int .i64 ui), .k (.int .i64 gi), cd, .k (.string tg), cx, .k (.bool op), ci, .k (.int .i64 up), .k (.int .i64 lk)] =>
    holdCs b [cd, cx] (s.setO a .gone) fun cs' s' => match cs' with
     | [cd', cx'] => match ofSl .u8 [cd'], ofSl xaTy [cx'] with
      | some (d, []), some (x, []) => match ci with
       | .k (.map none) => kd ≠ 1 ∧ ∀ bk vd vx, k ⟨bk, kd, mo, ui, gi, vd, d, tg, vx, x.map xaO, op, .map none, [], up, lk⟩ s'
       | .m lm => match b.obj s' lm with
        | .map kt .str e ents => if Nat.beq kt T.kS then (match asM .str (.int .i64) ents with
         | some es => ∀ bk vd vx ib, k ⟨bk, kd, mo, ui, gi, vd, d, tg, vx, x.map xaO, op, .map (some ib), es, up, lk⟩ (s'.setO lm .gone)
         | none => False) else False
        | _ => False
       | _ => False
      | _, _ => False
     | _ => False
   | _ => False) else False
  | _ => False
 | _ => False
def UTy.beq (a b : UTy) : Bool := Nat.beq a.U b.U && (Nat.beq a.N b.N && (Nat.beq a.kI b.kI && Nat.beq a.kS b.kS))
theorem UTy.eq_of_beq {a b : UTy} (h : a.beq b = true) : a = b := by
 unfold UTy.beq at h
 simp only [Bool.and_eq_true] at h
 obtain ⟨a1, a2, a3, a4⟩ := a
 obtain ⟨b1, b2, b3, b4⟩ := b
 simp only at h
 rw [Nat.eq_of_beq_eq_true h.1, Nat.eq_of_beq_eq_true h.2.1, Nat.eq_of_beq_eq_true h.2.2.1, Nat.eq_of_beq_eq_true h.2.2.2]
def umPutV (P : Program) (b : Bs) (s : Ov) (k : TypeId) (l : Nat) (v : Value) (ky : Cl) (u : S1) (K : Ov → Prop) : Prop := match b.obj s l with
 | .ab (.um T _ _) => if kkOk P T.kI .int && (kkOk P T.kS .str && Nat.beq k T.kI) then newNode T b s u fun n s' => (match b.obj s' l with
  | .ab (.um T' mb L) => if T'.beq T then (match ky with
   | .k (.int .i64 r) => v = .map (some mb) ∧ getK L r = none ∧ L.length < 9223372036854775807 ∧ K (s'.setO l (.ab (.um T mb ((r, n) :: L))))
   | _ => False) else False
  | _ => False) else False
 | _ => False
def mapEntryV (X : Vx) (b : Bs) (s : Ov) (t : TypeId) (mx ky : Cl) (K : SV → Ov → Prop) : Prop := match X.P.underlying t, mx with
 | some (.map k et), .kl l v => match b.obj s l with
  | .up T q1 q2 mb nx L => if kkOk X.P T.kI .int && kkOk X.P T.kS .str then
    (if Nat.beq k T.kI then (if nilZero X.P et then (match ky with
     | .k (.int .i64 r) => v = .map (some mb) ∧ getK L r = none ∧ L.length < 9223372036854775807 ∧ ∀ st : Nat, K (.tup [.c .unk, .c (.kl l (.int .i64 st))]) (s.setO l (.ab (.pe T q1 q2 mb nx L (.node r) st)))
     | _ => False) else False)
    else if Nat.beq k T.kS && intZero X.P et then (match ky with
     | .k (.string z) => ∃ r m, getK L r = some m ∧ m.vi = v ∧ m.kind = 1 ∧ m.ents.length < 9223372036854775807 ∧ ∀ st : Nat, K (.tup [.c .unk, .c (.kl l (.int .i64 st))]) (s.setO l (.ab (.pe T q1 q2 mb nx L (.ent r z) st)))
     | _ => False)
    else False) else False
  | _ => False
 | _, _ => False
def entryNodeV (P : Program) (b : Bs) (s : Ov) (l : Nat) (v : Value) (x : Int) (T : UTy) (u : S1) (K : Ov → Prop) : Prop := newNode T b s u fun nd s' => match b.obj s' l with
 | .ab (.pe T' q1 q2 mb nx L (.node r) n) => if T'.beq T then x = n ∧ v = .map (some mb) ∧ inK .i64 r ∧ getK L r = none ∧ K (s'.setO l (.up T q1 q2 mb nx ((r, nd) :: L))) else False
 | _ => False
def entryStoreV (X : Vx) (b : Bs) (s : Ov) (mx st : Cl) (u : S1) (K : Ov → Prop) : Prop := match mx, st with
 | .kl l v, .kl _ (.int .i64 x) => match b.obj s l with
  | .ab (.pe T q1 q2 mb nx L p n) => if kkOk X.P T.kI .int && kkOk X.P T.kS .str then (match p with
   | .node _ => entryNodeV X.P b s l v x T u K
   | .ent d z => match u with
    | .c (.k (.int .i64 y)) => x = n ∧ ∃ m, getK L d = some m ∧ m.vi = v ∧ z.size ≤ 9223372036854775807 ∧ K (s.setO l (.up T q1 q2 mb nx (setK L d { m with ents := putK m.ents z y })))
    | _ => False) else False
  | _ => False
 | _, _ => False
def pwStoreV (P : Program) (b : Bs) (s : Ov) (t : TypeId) (l bb : Nat) (lo : Nat) (K : Ov → Prop) : Prop := match P.info? t, b.obj s l, b.obj s lo with
 | some i, .up T q1 q2 mb nx L, .sl et e xs => if Nat.beq 1 i.size && (kkOk P T.kI .int && kkOk P T.kS .str) then (match asD .u8 xs with
  | some ys => ∃ r m, getK L r = some m ∧ m.blk = bb ∧ ∀ vd, K ((s.setO lo .gone).setO l (.ab (.pw T q1 q2 mb nx L r { m with vd := vd, data := ys } et ys)))
  | none => False) else False
 | _, _, _ => False
def upDelE (s : Ov) (l : Nat) (T : UTy) (q1 q2 : Int) (mb : Nat) (nx : Int) (L : List (Int × LNode)) (v : Value) (ky : Cl) (K : Ov → Prop) : Prop := match ky with
 | .k (.string z) => ∃ r m, getK L r = some m ∧ m.vi = v ∧ m.kind = 1 ∧ K (s.setO l (.up T q1 q2 mb nx (setK L r { m with ents := delK m.ents z })))
 | _ => False
def upDelV (X : Vx) (b : Bs) (s : Ov) (t k : TypeId) (l : Nat) (v : Value) (ky : Cl) (K : Ov → Prop) : Prop := match X.P.underlying t with
 | some (.map k' _) => if Nat.beq k k' then (match b.obj s l with
  | .up T q1 q2 mb nx L => if kkOk X.P T.kI .int && kkOk X.P T.kS .str then
    (if Nat.beq k T.kS then upDelE s l T q1 q2 mb nx L v ky K
    else if Nat.beq k T.kI then (match ky with
     | .k (.int .i64 r) => ∃ m, getK L r = some m ∧ v = .map (some mb) ∧ ∀ hz, K (s.setO l (.ab (.fz T q1 q2 mb nx (delK L r) (some m) hz)))
     | _ => False)
    else False) else False
  | .ab (.fz T q1 q2 mb nx L none _) => if kkOk X.P T.kI .int && (kkOk X.P T.kS .str && Nat.beq k T.kS) then upDelE s l T q1 q2 mb nx L v ky K else False
  | _ => False) else False
 | _ => False
def lookupV (X : Vx) (b : Bs) (s : Ov) (t : TypeId) (mx ky : Cl) (c : Bool) (K : SV → Prop) : Prop := match X.P.underlying t with
 | some (.map k et) => match mx with
  | .m l => match b.obj s l with
   | .map k' kk e xs => if Nat.beq k k' && kkOk X.P k kk then (match dflV X.P et e, keyOfCl kk ky with
    | some z, some q => match s1Of e ((kk.get xs q).getD z) with
     | some r => e.ok ((kk.get xs q).getD z) → K (if c then .tup [r, .c (.k (.bool (kk.get xs q).isSome))] else .v r)
     | none => False
    | _, _ => False) else False
   | _ => False
  | .kl l v => upLookV X b s k et l v ky c K
  | _ => False
 | _ => False
def mapPutV (X : Vx) (b : Bs) (s : Ov) (t : TypeId) (mx ky : Cl) (v : S1) (K : Ov → Prop) : Prop := match X.P.underlying t with
 | some (.map k _) => match mx with
  | .m l => holdCs b v.cells s fun cs s1 => match b.obj s1 l with
   | .map k' kk e xs => if Nat.beq k k' && kkOk X.P k kk && s1In e v then (match keyOfCl kk ky, e.of cs with
    | some q, some (x, []) => xs.length < 9223372036854775807 ∧ K (s1.setO l (.map k' kk e (kk.put xs q x)))
    | _, _ => False) else False
   | _ => False
  | .kl l u => match b.obj s l with
   | .ab (.um ..) => umPutV X.P b s k l u ky v K
   | _ => upPutV X b s k l u ky v K
  | _ => False
 | _ => False
def makeMapV (X : Vx) (s : Ov) (t : TypeId) (K : SV → Ov → Prop) : Prop := match X.P.underlying t with
 | some (.map k et) => match kkOf X.P k, dTy X et with
  | some kk, some e => K (.c (.m s.n)) (s.new (.map k kk e []))
  | _, _ => match X.um with
   | some T => if Nat.beq k T.kI && (kkOk X.P T.kI .int && kkOk X.P T.kS .str) then ∀ mb, K (.c (.kl s.n (.map (some mb)))) (s.new (.ab (.um T mb []))) else False
   | none => False
 | _ => False

def zeroV (P : Program) (t : TypeId) : Option SV := match P.info? t with
 | some i => match i.zero with
  | some z => constV z
  | none => none
 | none => none
def ifaceV (P : Program) (t : TypeId) (c : Cl) (K : SV → Prop) : Prop := match P.underlying t with
 | some (.interface _) => False
 | some _ => K (.c (.ifc t c))
 | none => False
def assertV (P : Program) (t : TypeId) (c : Cl) (K : SV → Prop) : Prop := match P.underlying t with
 | some (.interface _) => False
 | some _ => match c with
  | .ifc t' c' => if Nat.beq t' t then K (.tup [.c c', .c (.k (.bool true))]) else (match zeroV P t with
   | some (.v z) => K (.tup [z, .c (.k (.bool false))])
   | _ => False)
  | .k .nilIface => match zeroV P t with
   | some (.v z) => K (.tup [z, .c (.k (.bool false))])
   | _ => False
  | _ => False
 | none => False

def rangeV (X : Vx) (b : Bs) (s : Ov) (t : TypeId) (c : Cl) (K : SV → Ov → Prop) : Prop := match X.P.underlying t, c with
 | some .string, .k (.string z) => K (.c (.p s.n 0)) (s.new (.ab (.iter z 0)))
 | some (.map k _), .kl l v => match b.obj s l with
  | .up T q1 q2 mb nx L => if kkOk X.P T.kI .int && kkOk X.P T.kS .str then
    (if Nat.beq k T.kI then v = .map (some mb) ∧ ∀ hz, K (.c (.p s.n 0)) ((s.setO l (.ab (.fz T q1 q2 mb nx L none hz))).new (.ab (.mit .int k l hz v L none)))
    else if Nat.beq k T.kS then ∃ r m, getK L r = some m ∧ m.vi = v ∧ ∀ hz, K (.c (.p s.n 0)) ((s.setO l (.ab (.fz T q1 q2 mb nx L none hz))).new (.ab (.mit .str k l hz v m.ents none)))
    else False) else False
  | .ab (.fz T _ _ _ _ L z hz) => if kkOk X.P T.kI .int && (kkOk X.P T.kS .str && Nat.beq k T.kS) then (match z with
   | none => ∃ r m, getK L r = some m ∧ m.vi = v ∧ K (.c (.p s.n 0)) (s.new (.ab (.mit .str k l hz v m.ents none)))
   | some m => m.vi = v ∧ K (.c (.p s.n 0)) (s.new (.ab (.mit .str k l hz v m.ents none)))) else False
  | _ => False
 | _, _ => False
def mapOfV (T : UTy) (mb : Nat) (L : List (Int × LNode)) (z : Option LNode) (kt : TypeId) (v : Value) : (k : Kk) → List (k.den × k.uv) → Prop
 | .int, M => kt = T.kI ∧ z = none ∧ v = .map (some mb) ∧ M = L
 | .str, M => kt = T.kS ∧ ∃ m, (match z with | none => ∃ r, getK L r = some m | some q => q = m) ∧ m.vi = v ∧ m.ents = M
def mitKey : (k : Kk) → k.den → Cl
 | .int, x => .k (.int .i64 x)
 | .str, z => .k (.string z)
def mitVal (l : Nat) : (k : Kk) → k.uv → Cl
 | .int, n => .kl l (.pointer (some ⟨n.blk, 0, none⟩))
 | .str, x => .k (.int .i64 x)
def mitOk : (k : Kk) → k.den → k.uv → Prop
 | .int, x, _ => inK .i64 x
 | .str, z, x => z.size ≤ 9223372036854775807 ∧ inK .i64 x
def nextV (b : Bs) (s : Ov) (c : Cl) (K : SV → Ov → Prop) : Prop := match c with
 | .p l 0 => match b.obj s l with
  | .ab (.iter z p) => br (decide (p < z.size)) (K (.tup [.c (.k (.bool true)), .c (.k (.int .i64 p)), .c (.k (.int .i32 (Utf8.decode z p).1))]) (s.setO l (.ab (.iter z (p + (Utf8.decode z p).2))))) (K (.tup [.c (.k (.bool false))]) s)
  | _ => False
 | _ => False
def nextM (P : Program) (b : Bs) (s : Ov) (c : Cl) (K : SV → Ov → Prop) : Prop := match c with
 | .p li 0 => match b.obj s li with
  | .ab (.mit k kt l hz v left _) => match b.obj s l with
   | .ab (.fz T _ _ mb _ L z hz') => if kkOk P T.kI .int && kkOk P T.kS .str then hz' = hz ∧ (∃ M, mapOfV T mb L z kt v k M ∧ (left = [] → K (.tup [.c (.k (.bool false))]) s) ∧
     ∀ x y left', left.Perm ((x, y) :: left') → mitOk k x y → K (.tup [.c (.k (.bool true)), .c (mitKey k x), .c (mitVal l k y)]) (s.setO li (.ab (.mit k kt l hz v left' (some (x, y)))))) else False
   | _ => False
  | _ => False
 | _ => False
def entryM (P : Program) (b : Bs) (s : Ov) (c : Cl) (K : SV → Prop) : Prop := match c with
 | .p li 0 => match b.obj s li with
  | .ab (.mit k kt l hz v _ cur) => match b.obj s l with
   | .ab (.fz T _ _ mb _ L z hz') => if kkOk P T.kI .int && kkOk P T.kS .str then ∃ M x y, hz' = hz ∧ mapOfV T mb L z kt v k M ∧ cur = some (x, y) ∧ (mitOk k x y → K (.tup [.c (mitKey k x), .c (mitVal l k y)])) else False
   | _ => False
  | _ => False
 | _ => False
def makeSliceV (X : Vx) (s : Ov) (t : TypeId) (c d : Cl) (K : SV → Ov → Prop) : Prop := match X.P.underlying t, c, d with
 | some (.slice et), .k (.int .i64 n), .k (.int .i64 m) => if isU8 X et then n = m ∧ 0 ≤ n ∧ n ≤ 140737488355328 ∧ K (.c (.o s.n)) (s.new (.sl et .u8 (List.replicate n.toNat 0))) else False
 | _, _, _ => False
def isConst : Operand → Bool
 | .const _ => true
 | _ => false
def op1 (b : Bs) (s : Ov) (x : Operand) (k : SV → Prop) : Prop := match opd b s x with
 | some v => k v
 | none => False
def cl1 (b : Bs) (s : Ov) (x : Operand) (k : Cl → Prop) : Prop := match opd b s x with
 | some (.v (.c c)) => k c
 | _ => False
def opt1 (b : Bs) (s : Ov) (q : Option Operand) (k : Option SV → Prop) : Prop := match q with
 | none => k none
 | some y => op1 b s y fun v => k (some v)
def capsOf : List SV → Option (List Cl)
 | [] => some []
 | .v (.c c) :: r => match capsOf r with
  | some q => some (c :: q)
  | none => none
 | _ => none
def copyCs : (off n j : Nat) → List Cl → List ByteArray → Option (List Cl)
 | 0, 0, _, cs, _ => some cs
 | 0, n + 1, j, c :: r, ys => match c with
  | .k (.string z) => match copyCs 0 n (j + 1) r ys with
   | some l => some (.k (.string ((ys[j]?).getD z)) :: l)
   | none => none
  | _ => none
 | off + 1, n, j, c :: r, ys => match copyCs off n j r ys with
  | some l => some (c :: l)
  | none => none
 | _, _, _, [], _ => none
def copyV (X : Vx) (b : Bs) (s : Ov) (t t2 : TypeId) (x y : Cl) (K : SV → Ov → Prop) : Prop := match X.P.underlying t, x with
 | some (.slice et), .sc l off n => if Nat.beq t t2 then (match X.P.info? et, listOf b s .str y, b.obj s l with
  | some ie, some ys, .cells u cs => if Nat.beq ie.size 1 then (match copyCs off n 0 cs ys with
   | some cs' => n ≤ 9223372036854775807 ∧ K (.int (min ys.length n : Nat)) (s.setO l (.cells u cs'))
   | none => False) else False
  | _, _, _ => False) else False
 | some (.slice et), .o l => if Nat.beq t t2 && isU8 X et then (match b.obj s l with
  | .sl et' _ xs => if Nat.beq et' et then (match asD .u8 xs with
   | some xs => srcV b s .u8 y fun ys => K (.int (min ys.length xs.length : Nat)) (s.setO l (.sl et .u8 (copyL xs 0 ys)))
   | none => False) else False
  | _ => False) else False
 | some (.slice et), .os l sz lo hi => if Nat.beq t t2 && (isU8 X et && Nat.beq sz 1) then (match b.obj s l with
  | .sl et' _ xs => if Nat.beq et' et then (match asD .u8 xs with
   | some xs => 0 ≤ lo ∧ lo ≤ xs.length ∧ hi = xs.length ∧ srcV b s .u8 y fun ys => K (.int (min ys.length (xs.length - lo.toNat) : Nat)) (s.setO l (.sl et .u8 (copyL xs lo.toNat ys)))
   | none => False) else False
  | _ => False) else False
 | some (.slice et), .kl l v => if Nat.beq t t2 && isU8 X et then (match b.obj s l with
  | .ab (.pw T q1 q2 mb nx L r m e xs) => if Nat.beq e et then ∃ lo, v = sliceV 1 m.vd lo xs.length ∧ 0 ≤ lo ∧ lo ≤ xs.length ∧ srcV b s .u8 y fun ys => K (.int (min ys.length (xs.length - lo.toNat) : Nat)) (s.setO l (.ab (.pw T q1 q2 mb nx L r m et (copyL xs lo.toNat ys)))) else False
  | _ => False) else False
 | _, _ => False
def vBuiltin (X : Vx) (b : Bs) (s : Ov) (bi : Builtin) (args : List SV) (ts : List TypeId) (K : SV → Ov → Prop) : Prop := match bi with
 | .len => match args, ts with
  | [.v (.c x)], [t] => lenV X.P b s t x fun r => K r s
  | _, _ => False
 | .append => match args, ts with
  | [.v (.c x), .v (.c y)], [t, t2] => appendV X b s t t2 x y K
  | _, _ => False
 | .copy => match args, ts with
  | [.v (.c x), .v (.c y)], [t, t2] => copyV X b s t t2 x y K
  | _, _ => False
 | .min => match args, ts with
  | [x, y], [_, _] => mmV true x y fun r => K r s
  | _, _ => False
 | .max => match args, ts with
  | [x, y], [_, _] => mmV false x y fun r => K r s
  | _, _ => False
 | .delete => match args, ts with
  | [.v (.c (.kl l v)), .v (.c y)], [t, k] => upDelV X b s t k l v y fun s' => K (.tup []) s'
  | _, _ => False
 | _ => False
def methF (P : Program) (t : TypeId) (name : String) : Option FuncId := match P.info? t with
 | some ti => match ti.methods.find? (·.name == name) with
  | some m => if m.path.isEmpty then (match m.func, P.underlying t with
   | some (f, true), some (.pointer _) => some f
   | _, _ => none) else none
  | none => none
 | none => none
def vCall (X : Vx) (b : Bs) (s : Ov) (c : Call) (K : SV → Ov → Prop) : Prop := match opds b s c.args.toList with
 | none => False
 | some args => match c.callee with
  | .value f => cl1 b s f fun q => match q with
   | .fn f caps => if funcOk X.P f then (if memN f X.hold then holdVs b (args ++ caps.map .c) s fun vs s => callV (lookC X.ct) b s f vs K else if memN f X.ro then callR (lookC X.ct) b s f (args ++ caps.map .c) K else callV (lookC X.ct) b s f (args ++ caps.map .c) K) else False
   | _ => False
  | .builtin bi => vBuiltin X b s bi args c.argTypes.toList K
  | .invoke ro name => cl1 b s ro fun q => match q with
   | .ifc t r => (match methF X.P t name with
    | some f => if funcOk X.P f then (if memN f X.ro then callR (lookC X.ct) b s f (.v (.c r) :: args) K else callV (lookC X.ct) b s f (.v (.c r) :: args) K) else False
    | none => False)
   | _ => False
def vOp (X : Vx) (b : Bs) (s : Ov) (o : Oper) (K : SV → Ov → Prop) : Prop := match o.op with
 | .move x | .assign x => op1 b s x fun v => K v s
 | .pick c x y => cl1 b s c fun c => op1 b s x fun v => op1 b s y fun u => match c with
  | .k (.bool q) => br q (K v s) (K u s)
  | _ => False
 | .binOp op t x y _ => op1 b s x fun v => op1 b s y fun u => binV X.wrap X.P b s (isConst x || isConst y) op t v u fun r => K r s
 | .unOp op _ x => op1 b s x fun v => unV X.wrap op v fun r => K r s
 | .extract x i => op1 b s x fun v => match v with
  | .tup l => match l[i]? with
   | some c => K (.v c) s
   | none => False
  | _ => False
 | .field t x j => op1 b s x fun v => match v with
  | .v (.agg l) => match fieldOf X.P t j with
   | some f => match part1 X.P f.type l f.offset with
    | some r => K (.v r) s
    | none => False
   | none => False
  | _ => False
 | .load t x => cl1 b s x fun c => loadV X.P b s t c fun r => K r s
 | .store t x y => cl1 b s x fun c => op1 b s y fun u => match u with
  | .v u => match c with
   | .kl l (.pointer (some ⟨bb, off, none⟩)) => match X.pend, u with
    | true, .c (.o lo) => if Nat.beq off 6 then pwStoreV X.P b s t l bb lo fun s' => K .und s' else False
    | _, _ => holdCs b u.cells s fun cs s1 => nodeStoreV X.P b s1 t l bb off (reAgg u cs) fun s' => K .und s'
   | .p l off => match b.obj s l with
    | .up .. => nextStoreV X.P b s t l off u fun s' => K .und s'
    | _ => storeV X.P b s t c u fun s' => K .und s'
   | .oe .. => holdCs b u.cells s fun cs s1 => storeV X.P b s1 t c (reAgg u cs) fun s' => K .und s'
   | _ => storeV X.P b s t c u fun s' => K .und s'
  | _ => False
 | .alloc t => match zeroCs X.P t with
  | some z => match bldOf X.bld t z with
   | some e => K (.c (.p s.n 0)) (s.new (.ab (.bld t e [])))
   | none => K (.c (.p s.n 0)) (s.new (.cells t z))
  | none => False
 | .box t x => op1 b s x fun v => match v with
  | .v v => K (.c (.p s.n 0)) (s.new (.cells t v.cells))
  | _ => False
 | .nilCheck x => cl1 b s x fun c => match c with
  | .p l off => K (.c (.p l off)) s
  | .de e y i off => K (.c (.de e y i off)) s
  | .oe l sz i off => K (.c (.oe l sz i off)) s
  | .kl l (.pointer (some q)) => K (.c (.kl l (.pointer (some q)))) s
  | _ => False
 | .fieldAddr t x j => cl1 b s x fun c => match fieldOf X.P t j with
  | some f => match X.P.info? f.type with
   | some ie => if Nat.blt 0 ie.size then (match addrF c f.offset with
    | some c' => K (.c c') s
    | none => False) else False
   | none => False
  | none => False
 | .indexAddr t x i => cl1 b s x fun c => cl1 b s i fun q => match q with
  | .k (.int .i64 n) => indexAddrV X.P b s t c n fun r => K r s
  | _ => False
 | .index t x i => cl1 b s x fun c => cl1 b s i fun q => match X.P.underlying t, c, q with
  | some .string, .k (.string z), .k (.int _ n) => 0 ≤ n ∧ n < z.size ∧ K (.k (.int .u8 ((byteAt z n).toNat : Int))) s
  | _, _, _ => False
 | .slice t x lo hi none => cl1 b s x fun c => opt1 b s lo fun l => opt1 b s hi fun h => match intOf l, intOf h with
  | some l, some h => sliceK X.P b s t c l h fun r => K r s
  | _, _ => False
 | .build t ps => match partsV b s ps.toList with
  | some l => buildV X.P t l fun r => K r s
  | none => False
 | .buildSlice t n ps => match partsV b s ps.toList with
  | some l => buildSliceV X b s t n l K
  | none => False
 | .convert src dst x => op1 b s x fun v => convV X b s src dst v K
 | .makeFunc (.func f) first captured => if first.isEmpty then (match opds b s captured.toList with
  | some l => match capsOf l with
   | some cs => K (.c (.fn f cs)) s
   | none => False
  | none => False) else False
 | .makeInterface t x => cl1 b s x fun c => ifaceV X.P t c fun r => K r s
 | .typeAssert x _ t true => cl1 b s x fun c => assertV X.P t c fun r => K r s
 | .makeMap t none => makeMapV X s t K
 | .lookup t x y c => cl1 b s x fun mx => cl1 b s y fun ky => lookupV X b s t mx ky c fun r => K r s
 | .mapUpdate t x y z => cl1 b s x fun mx => cl1 b s y fun ky => op1 b s z fun u => match u with
  | .v v => mapPutV X b s t mx ky v fun s' => K .und s'
  | _ => False
 | .range t x => cl1 b s x fun c => rangeV X b s t c K
 | .next x true => cl1 b s x fun c => nextV b s c K
 | .next x false => cl1 b s x fun c => nextM X.P b s c K
 | .entry x => cl1 b s x fun c => entryM X.P b s c fun r => K r s
 | .makeSlice t x y => cl1 b s x fun c => cl1 b s y fun d => makeSliceV X s t c d K
 | .mapEntry t x y => cl1 b s x fun mx => cl1 b s y fun ky => mapEntryV X b s t mx ky K
 | .entryStore _ x y z => cl1 b s x fun mx => cl1 b s y fun st => op1 b s z fun u => match u with
  | .v v => entryStoreV X b s mx st v fun s' => K .und s'
  | _ => False
 | .insert t x y z => cl1 b s x fun mx => cl1 b s y fun ky => op1 b s z fun u => match u with
  | .v v => mapPutV X b s t mx ky v fun s' => K .und s'
  | _ => False
 | .call c => vCall X b s c K
 | _ => False

inductive Ex
 | normal | exit (id : Nat) | ret
def wantV (ops : Array Oper) (b : Bs) (s : Ov) (o : Oper) (K : Bool → Ov → Prop) : Prop := match o.guard with
 | none => K true s
 | some (j, w) => match (ops[j]?).bind (·.dst) with
  | none => False
  | some d => match b.slot s d with
   | some (.v (.c (.k (.bool v)))) => br v (K (true == w) (s.put (some d) (.bool true))) (K (false == w) (s.put (some d) (.bool false)))
   | some (.tup _) => K false s
   | _ => False
def vOp1 (X : Vx) (n : Nat) (ops : Array Oper) (b : Bs) (s : Ov) (o : Oper) (K : Ov → Prop) : Prop :=
 if (match o.dst with | some d => Nat.blt d n | none => true) then wantV ops b s o fun w s => match w with
  | true => vOp X b s o fun v s' => K (s'.put o.dst v)
  | false => K (s.put o.dst .und)
 else False
def vOps (X : Vx) (n : Nat) (ops : Array Oper) (b : Bs) : List Oper → Ov → (Ov → Prop) → Prop
 | [], s, K => K s
 | o :: r, s, K => vOp1 X n ops b s o fun s' => vOps X n ops b r s' K
def plainT (P : Program) (t : TypeId) : Bool := match P.underlying t with
 | some (.int _) | some .string | some .bool | some (.struct _) | some (.array _ _) => true
 | _ => false
def pureOp (P : Program) (o : Oper) : Bool := o.dst.isSome && (match o.op with
 | .move _ | .assign _ | .pick .. | .unOp .. | .extract .. | .field .. | .load .. | .nilCheck _ | .fieldAddr .. | .indexAddr .. | .index .. | .build .. => true
 | .slice _ _ _ _ none => true
 | .binOp _ t _ _ _ => plainT P t
 | .convert _ dst _ => (match P.underlying dst with
  | some .string | some (.int _) => true
  | _ => false)
 | .call c => (match c.callee with
  | .builtin .len => true
  | _ => false)
 | _ => false)
def forceL {α : Type} : List α → (List α → Prop) → Prop
 | [], k => k []
 | a :: l, k => forceL l fun l' => k (a :: l')
def forceB : List Bool → (List Bool → Prop) → Prop
 | [], k => k []
 | a :: l, k => forceB l fun l' => match a with
  | true => k (true :: l')
  | false => k (false :: l')
def nthB : List Bool → Nat → Bool
 | [], _ => false
 | a :: _, 0 => a
 | _ :: r, i + 1 => nthB r i
def nthR : List (List Bool) → Nat → List Bool
 | [], _ => []
 | a :: _, 0 => a
 | _ :: r, i + 1 => nthR r i
def setB : Nat → List Bool → List Bool
 | 0, [] => [true]
 | 0, _ :: r => true :: r
 | k + 1, [] => false :: setB k []
 | k + 1, a :: r => a :: setB k r
def orB : List Bool → List Bool → List Bool
 | [], l => l
 | a :: r, [] => a :: r
 | a :: r, b :: q => (a || b) :: orB r q
def rowE (acc : List (List Bool)) : List Edge → List Bool
 | [] => []
 | e :: r => match Region.binds .any e with
  | true => orB (setB e.on (nthR acc e.on)) (rowE acc r)
  | false => rowE acc r
def rowsK : List Oper → List (List Bool) → (List (List Bool) → Prop) → Prop
 | [], acc, k => k acc
 | o :: r, acc, k => forceB (rowE acc o.after.toList) fun row => forceL (acc ++ [row]) fun acc => rowsK r acc k
def countNP : List Bool → List Bool → Nat
 | p :: ps, r :: rs => match r && !p with
  | true => countNP ps rs + 1
  | false => countNP ps rs
 | _, _ => 0
def atPhase (pu : List Bool) (ms : List (List Bool)) (size J : Nat) : List Nat := (List.range size).filter fun i => nthB pu i && Nat.beq (countNP pu (nthR ms i)) J
def ordGo (pu : List Bool) (ms : List (List Bool)) (size : Nat) : Nat → List Nat → List Nat
 | J, [] => atPhase pu ms size J
 | J, n :: r => atPhase pu ms size J ++ n :: ordGo pu ms size (J + 1) r
def ordOf (pu : List Bool) (ms : List (List Bool)) (size : Nat) : List Nat := ordGo pu ms size 0 ((List.range size).filter fun i => !nthB pu i)
def dstAt (ops : Array Oper) (k : Nat) : Option Nat := (ops[k]?).bind (·.dst)
def aheadOk (pu : List Bool) (ms : List (List Bool)) : List Nat → List Nat → Bool
 | _, [] => true
 | dn, i :: r => dn.all (fun j => nthB pu j || nthB (nthR ms i) j) && aheadOk pu ms (i :: dn) r
def isDst (ops : Array Oper) (k t : Nat) : Bool := match dstAt ops k with
 | some d => Nat.beq d t
 | none => false
def overAt (ops : Array Oper) (k : Nat) : Bool := match dstAt ops k with
 | some d => (List.range k).any fun i => match ops[i]? with
  | some o => memN d (slotsOf ops o)
  | none => false
 | none => false
def pureAt (P : Program) (ops : Array Oper) (k : Nat) : Bool := match ops[k]? with
 | some o => pureOp P o && !overAt ops k
 | none => false
def slotsOkB (ops : Array Oper) (pu : List Bool) (ms : List (List Bool)) : Bool := (List.range ops.size).all fun i => match ops[i]? with
 | none => true
 | some o => (slotsOf ops o).all fun t => (List.range ops.size).all fun k => !isDst ops k t || (nthB (nthR ms i) k || !nthB pu k)
def laterOk (ops : Array Oper) (pu : List Bool) (ms : List (List Bool)) : List Nat → Bool
 | [] => true
 | i :: r => (!nthB pu i || match ops[i]? with
  | none => true
  | some o => (slotsOf ops o).all fun t => !isDst ops i t && r.all fun k => !isDst ops k t || (!nthB pu k && nthB (nthR ms k) i)) && laterOk ops pu ms r
def ordOk (ops : Array Oper) (pu : List Bool) (ms : List (List Bool)) (ord : List Nat) : Bool :=
 nodupN ord && ord.all (fun i => Nat.blt i ops.size) && (List.range ops.size).all (fun i => memN i ord) && aheadOk pu ms [] ord && slotsOkB ops pu ms && laterOk ops pu ms ord
def rdOf (b : Bs) (s : Ov) (o : Oper) : List Nat := o.op.operands.toList.flatMap fun x => match opd b s x with
 | some v => v.labels
 | none => []
def vNon (X : Vx) (n : Nat) (ops : Array Oper) (b : Bs) (s : Ov) (o : Oper) (K : Ov → List Nat → Prop) : Prop :=
 if (match o.dst with | some d => Nat.blt d n | none => true) then wantV ops b s o fun w s => match w with
  | true => vOp X { f := s.f ++ b.f, h := b.heap s } { f := [], h := [], n := s.n } o fun v s' => match s'.f with
   | [] => K (({ f := s.f, h := s'.h ++ s.h, n := s'.n } : Ov).put o.dst v) (s'.h.map (·.1))
   | _ => False
  | false => K (s.put o.dst .und) []
 else False
def vDraw (X : Vx) (n : Nat) (ops : Array Oper) (b : Bs) (ms : List (List Bool)) (pu : List Bool) : List Nat → List (Nat × List Nat) → Ov → (Ov → Prop) → Prop
 | [], _, s, K => K s
 | i :: r, lv, s, K => match ops[i]? with
  | none => False
  | some o => match nthB pu i with
   | true => vOp1 X n ops b s o fun s' => vDraw X n ops b ms pu r ((i, rdOf b s o) :: lv) s' K
   | false => vNon X n ops b s o fun s' ks => forceL (lv.filter fun p => !nthB (nthR ms i) p.1) fun lv => if lv.all (fun p => p.2.all fun l => !memN l ks) then vDraw X n ops b ms pu r lv s' K else False
def npOk (ms : List (List Bool)) (np dn : List Nat) (i : Nat) : Bool := np.all fun j => !nthB (nthR ms i) j || memN j dn
def altsGo (pu : List Bool) (ms : List (List Bool)) (np : List Nat) (size : Nat) : Nat → List Nat → List (List Nat)
 | 0, _ => [[]]
 | f + 1, dn =>
  let ps := (List.range size).filter fun i => nthB pu i && (!memN i dn && npOk ms np dn i)
  match np.filter fun i => !memN i dn && npOk ms np dn i with
  | [] => [ps]
  | ns => ns.flatMap fun i => (altsGo pu ms np size f (dn ++ ps ++ [i])).map fun r => ps ++ i :: r
def firstNP (pu : List Bool) : List Nat → Nat → Bool
 | [], _ => false
 | x :: r, i => Nat.beq x i || (nthB pu x && firstNP pu r i)
def stripN : List Nat → List Nat → Option (List Nat)
 | [], r => some r
 | _ :: _, [] => none
 | a :: l, b :: r => bif Nat.beq a b then stripN l r else none
def closeGo (pu : List Bool) (ms : List (List Bool)) (np : List Nat) (os : List (List Nat)) : List Nat → List Nat → Bool
 | _, [] => true
 | dn, x :: r => ((x :: r).all fun i => firstNP pu (x :: r) i || (!npOk ms np dn i || os.any fun o => match stripN dn o with
   | some q => firstNP pu q i
   | none => false)) && closeGo pu ms np os (dn ++ [x]) r
def altsOk (ops : Array Oper) (pu : List Bool) (ms : List (List Bool)) (np : List Nat) (os : List (List Nat)) : Bool :=
 slotsOkB ops pu ms && (!os.isEmpty && os.all fun ord => nodupN ord && (ord.all (fun i => Nat.blt i ops.size) && ((List.range ops.size).all (fun i => memN i ord) && (laterOk ops pu ms ord && closeGo pu ms np os [] ord))))
def headsN : List (List Nat) → List Nat
 | [] => []
 | [] :: r => headsN r
 | (x :: _) :: r => match memN x (headsN r) with
  | true => headsN r
  | false => x :: headsN r
def tailsN (i : Nat) : List (List Nat) → List (List Nat)
 | [] => []
 | [] :: r => tailsN i r
 | (x :: q) :: r => match Nat.beq x i with
  | true => q :: tailsN i r
  | false => tailsN i r
def allN : List Nat → (Nat → Prop) → Prop
 | [], _ => True
 | [x], p => p x
 | x :: y :: r, p => p x ∧ allN (y :: r) p
def forceLL : List (List Nat) → (List (List Nat) → Prop) → Prop
 | [], k => k []
 | a :: l, k => forceL a fun a' => forceLL l fun l' => k (a' :: l')
def vTree (X : Vx) (n : Nat) (ops : Array Oper) (b : Bs) (ms : List (List Bool)) (pu : List Bool) : Nat → List (List Nat) → List (Nat × List Nat) → Ov → (Ov → Prop) → Prop
 | 0, _, _, s, K => K s
 | f + 1, os, lv, s, K => forceL (headsN os) fun hs => allN hs fun i => match ops[i]? with
  | none => False
  | some o => match nthB pu i with
   | true => vOp1 X n ops b s o fun s' => forceLL (tailsN i os) fun os => vTree X n ops b ms pu f os ((i, rdOf b s o) :: lv) s' K
   | false => vNon X n ops b s o fun s' ks => forceL (lv.filter fun p => !nthB (nthR ms i) p.1) fun lv => if lv.all (fun p => p.2.all fun l => !memN l ks) then forceLL (tailsN i os) fun os => vTree X n ops b ms pu f os lv s' K else False
def vRegion (X : Vx) (n : Nat) (ops : Array Oper) (draw : Bool) (b : Bs) (s : Ov) (K : Ov → Prop) : Prop :=
 if draw then
  if X.P.follows .mixedOrders && edgesOk ops && dstsOk ops n then
   forceB ((List.range ops.size).map (pureAt X.P ops)) fun pu => rowsK ops.toList [] fun ms => forceL (ordOf pu ms ops.size) fun ord =>
    if ordOk ops pu ms ord then vDraw X n ops b ms pu ord [] s K
    else forceL ((List.range ops.size).filter fun i => !nthB pu i) fun np => forceLL (altsGo pu ms np ops.size ops.size []) fun os =>
     if altsOk ops pu ms np os then vTree X n ops b ms pu ops.size os [] s K else False
  else False
 else vOps X n ops b ops.toList s K

inductive AbT
 | iter
 | bld (t e : TypeId)
 | fz (T : UTy)
 | fzs (T : UTy)
 | um (T : UTy)
 | mit (k : Kk) (kt : TypeId) (l : Nat)
 | upr (T : UTy)
 | rf (tU tN tE : TypeId)
@[reducible] def AbT.den : AbT → Type
 | .iter => ByteArray × Nat
 | .bld _ _ => List UInt8
 | .fz _ => Int × Int × Nat × Int × List (Int × LNode) × Option LNode × Hp
 | .fzs _ => Int × Int × Nat × Int × List (Int × LNode) × LNode × Hp
 | .um _ => Nat × List (Int × LNode)
 | .mit k _ _ => Hp × Value × List (k.den × k.uv) × Option (k.den × k.uv)
 | .upr _ => UpY
 | .rf _ _ _ => UpY
def AbT.mk : (t : AbT) → t.den → AbK
 | .iter, x => .iter x.1 x.2
 | .bld t e, x => .bld t e x
 | .fz T, x => .fz T x.1 x.2.1 x.2.2.1 x.2.2.2.1 x.2.2.2.2.1 x.2.2.2.2.2.1 x.2.2.2.2.2.2
 | .fzs T, x => .fz T x.1 x.2.1 x.2.2.1 x.2.2.2.1 x.2.2.2.2.1 (some x.2.2.2.2.2.1) x.2.2.2.2.2.2
 | .um T, x => .um T x.1 x.2
 | .mit k kt l, x => .mit k kt l x.1 x.2.1 x.2.2.1 x.2.2.2
 | .upr T, x => .upr T x
 | .rf tU tN tE, x => .rf tU tN tE x
def asMit {k' : Kk} (k : Kk) (x : Hp × Value × List (k'.den × k'.uv) × Option (k'.den × k'.uv)) : Option (Hp × Value × List (k.den × k.uv) × Option (k.den × k.uv)) := match k', k, x with
 | .int, .int, x => some x
 | .str, .str, x => some x
 | _, _, _ => none
def AbT.rd : (t : AbT) → AbK → Option t.den
 | .iter, k => match k with
  | .iter z p => some (z, p)
  | _ => none
 | .bld t e, k => match k with
  | .bld t' e' x => if Nat.beq t' t && Nat.beq e' e then some x else none
  | _ => none
 | .fz T, k => match k with
  | .fz T' q1 q2 mb nx L z hz => if T'.beq T then some (q1, q2, mb, nx, L, z, hz) else none
  | _ => none
 | .fzs T, k => match k with
  | .fz T' q1 q2 mb nx L z hz => match z with
   | some z => if T'.beq T then some (q1, q2, mb, nx, L, z, hz) else none
   | none => none
  | _ => none
 | .um T, k => match k with
  | .um T' mb L => if T'.beq T then some (mb, L) else none
  | _ => none
 | .mit kk kt l, k => match k with
  | .mit kk' kt' l' hz v left cur => if Nat.beq kt' kt && Nat.beq l' l then asMit kk (hz, v, left, cur) else none
  | _ => none
 | .upr T, k => match k with
  | .upr T' Y => if T'.beq T then some Y else none
  | _ => none
 | .rf tU tN tE, k => match k with
  | .rf a b c Y => if Nat.beq a tU && (Nat.beq b tN && Nat.beq c tE) then some Y else none
  | _ => none
theorem AbT.rd_ok : ∀ {t : AbT} {k : AbK} {x : t.den}, t.rd k = some x → k = t.mk x := by
 intro t k x h
 cases t <;> cases k <;> first | (have h' : none = some x := h; cases h'; done) | skip
 ·obtain rfl := Option.some.inj h
  rfl
 ·rename_i t e t' e' y
  have h : (if Nat.beq t' t && Nat.beq e' e then some y else none) = some x := h
  split at h
  ·rename_i hc
   simp only [Bool.and_eq_true] at hc
   obtain rfl := Option.some.inj h
   rw [Nat.eq_of_beq_eq_true hc.1, Nat.eq_of_beq_eq_true hc.2]; rfl
  ·cases h
 ·rename_i T T' q1 q2 mb nx L z hz
  have h : (if T'.beq T then some (q1, q2, mb, nx, L, z, hz) else none) = some x := h
  split at h
  ·rename_i hc
   obtain rfl := Option.some.inj h
   rw [UTy.eq_of_beq hc]; rfl
  ·cases h
 ·rename_i T T' q1 q2 mb nx L z hz
  cases z with
  | none => have h' : none = some x := h; cases h'
  | some z =>
   have h : (if T'.beq T then some (q1, q2, mb, nx, L, z, hz) else none) = some x := h
   split at h
   ·rename_i hc
    obtain rfl := Option.some.inj h
    rw [UTy.eq_of_beq hc]; rfl
   ·cases h
 ·rename_i T T' mb L
  have h : (if T'.beq T then some (mb, L) else none) = some x := h
  split at h
  ·rename_i hc
   obtain rfl := Option.some.inj h
   rw [UTy.eq_of_beq hc]; rfl
  ·cases h
 ·rename_i kk kt l kk' kt' l' hz v left cur
  have h : (if Nat.beq kt' kt && Nat.beq l' l then asMit kk (hz, v, left, cur) else none) = some x := h
  split at h
  ·rename_i hc
   simp only [Bool.and_eq_true] at hc
   obtain rfl := Nat.eq_of_beq_eq_true hc.1
   obtain rfl := Nat.eq_of_beq_eq_true hc.2
   cases kk <;> cases kk' <;> first | (have h' : none = some x := h; cases h'; done) | (obtain rfl := Option.some.inj h; rfl)
  ·cases h
 ·rename_i T T' Y
  have h : (if T'.beq T then some Y else none) = some x := h
  split at h
  ·rename_i hc
   obtain rfl := Option.some.inj h
   rw [UTy.eq_of_beq hc]; rfl
  ·cases h
 ·rename_i tU tN tE a b c Y
  have h : (if Nat.beq a tU && (Nat.beq b tN && Nat.beq c tE) then some Y else none) = some x := h
  split at h
  ·rename_i hc
   simp only [Bool.and_eq_true] at hc
   obtain rfl := Option.some.inj h
   rw [Nat.eq_of_beq_eq_true hc.1, Nat.eq_of_beq_eq_true hc.2.1, Nat.eq_of_beq_eq_true hc.2.2]; rfl
  ·cases h
mutual
def Cl.same : Cl → Cl → Bool
 | .p l x, c => match c with
  | .p l' x' => Nat.beq l l' && Nat.beq x x'
  | _ => false
 | .m l, c => match c with
  | .m l' => Nat.beq l l'
  | _ => false
 | .ifc t x, c => match c with
  | .ifc t' x' => Nat.beq t t' && Cl.same x x'
  | _ => false
 | .fn f l, c => match c with
  | .fn f' l' => Nat.beq f f' && Cl.sames l l'
  | _ => false
 | _, _ => false
def Cl.sames : List Cl → List Cl → Bool
 | [], c => match c with
  | [] => true
  | _ => false
 | a :: l, c => match c with
  | b :: r => Cl.same a b && Cl.sames l r
  | _ => false
end
mutual
theorem Cl.same_ok : ∀ {a b : Cl}, Cl.same a b = true → a = b
 | .p l x, c, h => by
  cases c <;> simp only [Cl.same] at h <;> first | (cases h; done) | skip
  simp only [Bool.and_eq_true] at h
  rw [Nat.eq_of_beq_eq_true h.1, Nat.eq_of_beq_eq_true h.2]
 | .m l, c, h => by
  cases c <;> simp only [Cl.same] at h <;> first | (cases h; done) | skip
  rw [Nat.eq_of_beq_eq_true h]
 | .ifc t x, c, h => by
  cases c <;> simp only [Cl.same] at h <;> first | (cases h; done) | skip
  simp only [Bool.and_eq_true] at h
  rw [Nat.eq_of_beq_eq_true h.1, Cl.same_ok h.2]
 | .fn f l, c, h => by
  cases c <;> simp only [Cl.same] at h <;> first | (cases h; done) | skip
  simp only [Bool.and_eq_true] at h
  rw [Nat.eq_of_beq_eq_true h.1, Cl.sames_ok h.2]
 | .k _, _, h => by simp [Cl.same] at h
 | .d _ _, _, h => by simp [Cl.same] at h
 | .de _ _ _ _, _, h => by simp [Cl.same] at h
 | .o _, _, h => by simp [Cl.same] at h
 | .os _ _ _ _, _, h => by simp [Cl.same] at h
 | .oe _ _ _ _, _, h => by simp [Cl.same] at h
 | .sc _ _ _, _, h => by simp [Cl.same] at h
 | .kl _ _, _, h => by simp [Cl.same] at h
 | .unk, _, h => by simp [Cl.same] at h
theorem Cl.sames_ok : ∀ {a b : List Cl}, Cl.sames a b = true → a = b
 | [], c, h => by
  cases c with
  | nil => rfl
  | cons _ _ => simp [Cl.sames] at h
 | a :: l, c, h => by
  cases c with
  | nil => simp [Cl.sames] at h
  | cons b r =>
   simp only [Cl.sames, Bool.and_eq_true] at h
   rw [Cl.same_ok h.1, Cl.sames_ok h.2]
end
inductive Sh
 | int (k : IntKind) | bool | str
 | d (e : Ty)
 | own (t : TypeId) (e : Ty)
 | p (l off : Nat)
 | m (l : Nat)
 | pa (t : AbT)
 | cst (c : Cl)
@[reducible] def Sh.den : Sh → Type
 | .int _ => Int
 | .bool => Bool
 | .str => ByteArray
 | .d e => List e.den
 | .own _ e => List e.den
 | .p .. | .m _ => Unit
 | .pa t => t.den
 | .cst _ => Unit
def Sh.mk : (h : Sh) → h.den → Nat → Cl × List HO
 | .int k, n, _ => (.k (.int k n), [])
 | .bool, v, _ => (.k (.bool v), [])
 | .str, z, _ => (.k (.string z), [])
 | .d e, x, _ => (.d e x, [])
 | .own t e, x, n => (.o n, [.sl t e x])
 | .p l off, _, _ => (.p l off, [])
 | .m l, _, _ => (.m l, [])
 | .pa t, x, n => (.p n 0, [.ab (t.mk x)])
 | .cst c, _, _ => (c, [])
def Sh.rd (b : Bs) (s : Ov) : (h : Sh) → Cl → Option (h.den × List Nat)
 | .int k, c => match c with
  | .k (.int k' n) => if IntKind.beq k' k then some (n, []) else none
  | _ => none
 | .bool, c => match c with
  | .k (.bool v) => some (v, [])
  | _ => none
 | .str, c => match c with
  | .k (.string z) => some (z, [])
  | _ => none
 | .d e, c => match c with
  | .d _ x => match asD e x with
   | some y => some (y, [])
   | none => none
  | .k (.slice none 0 0) => some ([], [])
  | .o l => match b.obj s l with
   | .held _ _ x => match asD e x with
    | some y => some (y, [])
    | none => none
   | _ => none
  | _ => none
 | .own t e, c => match c with
  | .k (.slice none 0 0) => some ([], [])
  | .o l => match b.obj s l with
   | .sl t' _ x => if Nat.beq t' t then (match asD e x with
    | some y => some (y, [l])
    | none => none) else none
   | _ => none
  | _ => none
 | .p l off, c => match c with
  | .p l' off' => if Nat.beq l' l && Nat.beq off' off && Nat.blt l b.h.length then some ((), []) else none
  | _ => none
 | .m l, c => match c with
  | .m l' => if Nat.beq l' l && Nat.blt l b.h.length then some ((), []) else none
  | _ => none
 | .pa t, c => match c with
  | .p l 0 => match b.obj s l with
   | .ab k => match t.rd k with
    | some x => some (x, [l])
    | none => none
   | _ => none
  | _ => none
 | .cst c0, c => if Cl.same c c0 && c0.labels.all (fun l => Nat.blt l b.h.length) then some ((), []) else none
inductive OSh
 | cells (t : TypeId) (cs : List Sh)
 | sl (t : TypeId) (e : Ty)
 | map (t : TypeId) (k : Kk) (e : Ty)
 | ab (t : AbT)
 | up (T : UTy)
@[reducible] def Shs.den : List Sh → Type
 | [] => Unit
 | h :: r => h.den × Shs.den r
def Shs.mk : (l : List Sh) → Shs.den l → Nat → List Cl × List HO
 | [], _, _ => ([], [])
 | h :: r, x, n => ((h.mk x.1 n).1 :: (Shs.mk r x.2 (n + (h.mk x.1 n).2.length)).1, (h.mk x.1 n).2 ++ (Shs.mk r x.2 (n + (h.mk x.1 n).2.length)).2)
def Shs.rd (b : Bs) (s : Ov) : (l : List Sh) → List Cl → Option (Shs.den l × List Nat)
 | [], [] => some ((), [])
 | h :: r, c :: cs => match h.rd b s c with
  | some (x, u) => match Shs.rd b s r cs with
   | some (y, v) => some ((x, y), u ++ v)
   | none => none
  | none => none
 | _, _ => none
@[reducible] def OSh.den : OSh → Type
 | .cells _ cs => Shs.den cs
 | .sl _ e => List e.den
 | .map _ k e => List (k.den × e.den)
 | .ab t => t.den
 | .up _ => Int × Int × Nat × Int × List (Int × LNode)
def OSh.mk : (h : OSh) → h.den → Nat → HO × List HO
 | .cells t cs, x, n => (.cells t (Shs.mk cs x n).1, (Shs.mk cs x n).2)
 | .sl t e, x, _ => (.sl t e x, [])
 | .map t k e, x, _ => (.map t k e x, [])
 | .ab t, x, _ => (.ab (t.mk x), [])
 | .up T, x, _ => (.up T x.1 x.2.1 x.2.2.1 x.2.2.2.1 x.2.2.2.2, [])
def OSh.rd (b : Bs) (s : Ov) : (h : OSh) → HO → Option (h.den × List Nat)
 | .cells t cs, o => match o with
  | .cells t' c => if Nat.beq t' t then Shs.rd b s cs c else none
  | _ => none
 | .sl t e, o => match o with
  | .sl t' _ x => if Nat.beq t' t then (match asD e x with
   | some y => some (y, [])
   | none => none) else none
  | _ => none
 | .map t k e, o => match o with
  | .map t' _ _ x => if Nat.beq t' t then (match asM k e x with
   | some y => some (y, [])
   | none => none) else none
  | _ => none
 | .ab t, o => match o with
  | .ab k => match t.rd k with
   | some x => some (x, [])
   | none => none
  | _ => none
 | .up T, o => match o with
  | .up T' q1 q2 mb nx L => if T'.beq T then some ((q1, q2, mb, nx, L), []) else none
  | _ => none
structure LAnn where
 slots : List (Nat × Sh)
 objs : List (Nat × OSh)
@[reducible] def slotsDen : List (Nat × Sh) → Type
 | [] => Unit
 | p :: r => p.2.den × slotsDen r
@[reducible] def objsDen : List (Nat × OSh) → Type
 | [] => Unit
 | p :: r => p.2.den × objsDen r
@[reducible] def LAnn.den (a : LAnn) : Type := slotsDen a.slots × objsDen a.objs
def slotsMk : (l : List (Nat × Sh)) → slotsDen l → Nat → Slots × List HO
 | [], _, _ => ([], [])
 | p :: r, x, n => ((p.1, .c (p.2.mk x.1 n).1) :: (slotsMk r x.2 (n + (p.2.mk x.1 n).2.length)).1, (p.2.mk x.1 n).2 ++ (slotsMk r x.2 (n + (p.2.mk x.1 n).2.length)).2)
def objsMk : (l : List (Nat × OSh)) → objsDen l → Nat → List (Nat × HO) × List HO
 | [], _, _ => ([], [])
 | p :: r, x, n => ((p.1, (p.2.mk x.1 n).1) :: (objsMk r x.2 (n + (p.2.mk x.1 n).2.length)).1, (p.2.mk x.1 n).2 ++ (objsMk r x.2 (n + (p.2.mk x.1 n).2.length)).2)
def slotsRd (b : Bs) (s : Ov) : (l : List (Nat × Sh)) → Option (slotsDen l × List Nat)
 | [] => some ((), [])
 | p :: r => match b.slot s p.1 with
  | some (.v (.c c)) => match p.2.rd b s c with
   | some (x, u) => match slotsRd b s r with
    | some (y, v) => some ((x, y), u ++ v)
    | none => none
   | none => none
  | _ => none
def objsRd (b : Bs) (s : Ov) : (l : List (Nat × OSh)) → Option (objsDen l × List Nat)
 | [] => some ((), [])
 | p :: r => match p.2.rd b s (b.obj s p.1) with
  | some (x, u) => match objsRd b s r with
   | some (y, v) => some ((x, y), u ++ v)
   | none => none
  | none => none
inductive LoopP {ι : Type} (B : ι → (ι → Prop) → Prop) (i : ι) : Prop
 | intro (I : ι → Prop) (μ : ι → Nat) (h0 : I i) (h : ∀ j, I j → B j fun j' => I j' ∧ μ j' < μ j)
abbrev LoopT (ι : Type) (B : ι → (ι → Prop) → Prop) (i : ι) : Prop := LoopP B i
inductive JoinP {ι : Type} (A : (ι → Prop) → Prop) (B : ι → Prop) : Prop
 | intro (J : ι → Prop) (hA : A J) (hB : ∀ i, J i → B i)
def writesC : Code → List Nat
 | .region _ ops _ => ops.toList.filterMap (·.dst)
 | .seq a b => writesC a ++ writesC b
 | .cond _ a b => writesC a ++ writesC b
 | .block _ c | .loop c | .scope c => writesC c
 | _ => []
def firstR : Code → Nat
 | .region id _ _ => id + 1
 | .seq a b => let k := firstR a; bif Nat.beq k 0 then firstR b else k
 | .cond _ a b => let k := firstR a; bif Nat.beq k 0 then firstR b else k
 | .block _ c | .loop c | .scope c => firstR c
 | _ => 0
structure FAnn where
 loops : List (Nat × LAnn)
 joins : List (Nat × LAnn)
def lookA : List (Nat × LAnn) → Nat → Option LAnn
 | [], _ => none
 | (k, v) :: s, t => bif Nat.beq k t then some v else lookA s t
def zipN : Nat → List HO → List (Nat × HO)
 | _, [] => []
 | n, o :: r => (n, o) :: zipN (n + 1) r
def sectB (ks : List Nat) (b : Bs) (s : Ov) : Bs := { f := (s.f ++ b.f).filter fun p => !memN p.1 ks, h := b.heap s }
def sectS (ks : List Nat) (b : Bs) (s : Ov) : Ov := { f := (s.f ++ b.f).filter fun p => memN p.1 ks, h := [], n := s.n }
def sectOut (ks : List Nat) (s s' : Ov) : Ov := { f := s'.f ++ (ks.map (fun k => (k, SV.any)) ++ s.f), h := s'.h ++ s.h, n := s'.n }
def ownsSh (b : Bs) (s : Ov) : Sh → Cl → List Nat
 | .own _ _, .o l => match b.obj s l with
  | .sl .. => [l]
  | _ => []
 | .pa _, .p l 0 => match b.obj s l with
  | .ab _ => [l]
  | _ => []
 | _, _ => []
def ownsShs (b : Bs) (s : Ov) : List Sh → List Cl → List Nat
 | h :: r, c :: cs => ownsSh b s h c ++ ownsShs b s r cs
 | _, _ => []
def ownsIn (a : LAnn) (b : Bs) (s : Ov) : List Nat :=
 (a.slots.flatMap fun p => match b.slot s p.1 with
  | some (.v (.c c)) => ownsSh b s p.2 c
  | _ => []) ++ a.objs.flatMap fun p => match p.2, b.obj s p.1 with
  | .cells _ l, .cells _ cs => ownsShs b s l cs
  | _, _ => []
def newsOf (a : LAnn) (n0 : Nat) (i : a.den) : List HO := (slotsMk a.slots i.1 n0).2 ++ (objsMk a.objs i.2 (n0 + (slotsMk a.slots i.1 n0).2.length)).2
def headS (a : LAnn) (us : List Nat) (n0 : Nat) (i : a.den) : Ov :=
 {f := (slotsMk a.slots i.1 n0).1, h := zipN n0 (newsOf a n0 i) ++ ((objsMk a.objs i.2 (n0 + (slotsMk a.slots i.1 n0).2.length)).1 ++ us.map fun l => (l, HO.gone)), n := n0 + (newsOf a n0 i).length }
def midOk (a : LAnn) (ks : List Nat) (n0 : Nat) (us0 : List Nat) (s' : Ov) (us : List Nat) : Bool :=
 nodupN (us ++ a.objs.map (·.1)) && us.all (fun l => Nat.ble n0 l || memN l us0) && (a.objs.map (·.1)).all (fun l => Nat.blt l n0 && !memN l us0) && s'.f.all (fun p => memN p.1 ks) && s'.h.all (fun p => Nat.ble n0 p.1 || memN p.1 (a.objs.map (·.1)) || memN p.1 us0)
def midV (a : LAnn) (ks : List Nat) (n0 : Nat) (us0 : List Nat) (b : Bs) (s' : Ov) (k : a.den → Prop) : Prop := match slotsRd b s' a.slots, objsRd b s' a.objs with
 | some (x, u), some (y, v) => if midOk a ks n0 us0 s' (u ++ v) then k (x, y) else False
 | _, _ => False
def Ov.force (s : Ov) (K : Ov → Prop) : Prop := forceL s.f fun f => forceL s.h fun h => K { f := f, h := h, n := s.n }
def Bs.force (b : Bs) (K : Bs → Prop) : Prop := forceL b.f fun f => forceL b.h fun h => K { f := f, h := h }
def Ov.told (s : Ov) (c : Operand) (v : Bool) : Ov := match c with
 | .tmp t => s.put (some t) (.bool v)
 | _ => s
def unrV (body : Ov → (Ex → Ov → Prop) → Prop) (Q : Ex → Ov → Prop) : Nat → Ov → Prop
 | 0, _ => False
 | k + 1, s => s.force fun s => body s fun e s' => match e with
  | .normal => unrV body Q k s'
  | e => Q e s'
def vCode (X : Vx) (n : Nat) (an : FAnn) : Code → Bs → Ov → (Ex → Ov → Prop) → Prop
 | .skip, _, s, Q => Q .normal s
 | .region _ ops draw, b, s, Q => s.force fun s => vRegion X n ops draw b s fun s' => Q .normal s'
 | .seq x y, b, s, Q => match lookA an.joins (firstR y) with
  | none => vCode X n an x b s fun e s' => match e with
   | .normal => vCode X n an y b s' Q
   | e => Q e s'
  | some a =>
   s.force fun s => forceL (writesC x ++ a.slots.map (·.1)) fun ks => (sectB ks b s).force fun b1 =>
   let us0 := ownsIn a b s
   JoinP (ι := a.den) (fun k => vCode X n an x b1 (sectS ks b s) fun e s' => match e with
     | .normal => midV a ks s.n us0 b1 s' k
     | e => Q e (sectOut ks s s'))
    (fun i => vCode X n an y b1 (headS a us0 s.n i) fun e s' => Q e (sectOut ks s s'))
 | .cond c x y, b, s, Q => match opd b s c with
  | some (.v (.c (.k (.bool v)))) => br v (vCode X n an x b (s.told c true) Q) (vCode X n an y b (s.told c false) Q)
  | _ => False
 | .block id c, b, s, Q => vCode X n an c b s fun e s' => match e with
  | .exit j => if Nat.beq j id then Q .normal s' else Q (.exit j) s'
  | e => Q e s'
 | .loop c, b, s, Q => match lookN X.unr (firstR c), lookA an.loops (firstR c) with
  | some k, _ => unrV (fun s q => vCode X n an c b s q) Q k s
  | none, none => False
  | none, some a =>
   s.force fun s => forceL (writesC c ++ a.slots.map (·.1)) fun ks => (sectB ks b s).force fun b1 =>
   let us0 := ownsIn a b s
   midV a ks s.n us0 b1 (sectS ks b s) fun i0 =>
    LoopP (ι := a.den) (fun i again => vCode X n an c b1 (headS a us0 s.n i) fun e s' => match e with
     | .normal => midV a ks s.n us0 b1 s' again
     | e => Q e (sectOut ks s s')) i0
 | .exit id, _, s, Q => Q (.exit id) s
 | .ret, _, s, Q => Q .ret s
 | _, _, _, _ => False

def resultsV (P : Program) (b : Bs) (s : Ov) : List ResultVar → Option (List S1)
 | [] => some []
 | .tmp t :: r => match b.slot s t with
  | some (.v v) => match resultsV P b s r with
   | some l => some (v :: l)
   | none => none
  | _ => none
 | .cell t ty :: r => match b.slot s t with
  | some (.v (.c (.p l off))) => match b.obj s l with
   | .cells _ cs => match part1 P ty cs off with
    | some v => match resultsV P b s r with
     | some q => some (v :: q)
     | none => none
    | none => none
   | _ => none
  | _ => none
def pack : List S1 → SV
 | [v] => .v v
 | l => .tup l
def vEnd (P : Program) (fn : Func) (n0 : Nat) (b : Bs) (s : Ov) (Q : SV → List HO → Prop) : Prop := match resultsV P b s fn.results.toList with
 | none => False
 | some l =>
  forceL (List.range n0 ++ (reachL (b.obj s) 1000 ((pack l).labels ++ (List.range n0).flatMap fun i => (b.obj s i).labels) []).filter fun l => Nat.ble n0 l) fun ls =>
  if nodupN ls && ls.all (fun l => Nat.blt l s.n) then Q ((pack l).ren (idxN ls)) (ls.map fun l => (b.obj s l).ren (idxN ls)) else False
def startF : Nat → List SV → Slots
 | _, [] => []
 | k, v :: r => (k, v) :: startF (k + 1) r
def vFun (X : Vx) (an : FAnn) (fn : Func) (args : List SV) (H : List HO) (Q : SV → List HO → Prop) : Prop := match fn.body with
 | none => False
 | some c => if Nat.ble args.length fn.ntmps then
   factVs args (vCode X fn.ntmps an c { f := startF 0 args, h := H } { f := [], h := [], n := H.length } fun e s => match e with
    | .normal | .ret => vEnd X.P fn H.length { f := startF 0 args, h := H } s Q
    | .exit _ => False)
  else False
end Go.Lm

namespace Go.Lm
open Go Go.RowKit

theorem if_ok {c : Bool} {p : Prop} (h : if c = true then p else False) : c = true ∧ p := by
 cases c
 ·exact h.elim
 ·exact ⟨rfl, h⟩
section
variable {b : Bs} {s : Ov}
theorem heap_len : (b.heap s).length = s.n := by simp [Bs.heap]
theorem heap_get {l : Nat} (h : l < s.n) : (b.heap s)[l]? = some (b.obj s l) := by
 simp [Bs.heap, List.getElem?_map, List.getElem?_range h]
theorem obj_setO {l k : Nat} {o : HO} : b.obj (s.setO l o) k = if l = k then o else b.obj s k := by
 unfold Bs.obj Ov.setO
 simp only [lookO]
 by_cases e : l = k
 ·subst e; simp
 ·rw [beq_ne e, if_neg e]; rfl
theorem heap_setO {l : Nat} {o : HO} (h : l < s.n) : b.heap (s.setO l o) = (b.heap s).set l o := by
 apply List.ext_getElem?
 intro k
 rw [List.getElem?_set]
 by_cases hk : k < s.n
 ·rw [heap_get (s := s.setO l o) hk, obj_setO]
  by_cases e : l = k
  ·subst e; simp [heap_len, h]
  ·rw [if_neg e, if_neg e, heap_get hk]
 ·have h1 : (b.heap (s.setO l o))[k]? = none := List.getElem?_eq_none (by rw [heap_len]; show s.n ≤ k; omega)
  have h2 : (b.heap s)[k]? = none := List.getElem?_eq_none (by rw [heap_len]; omega)
  rw [h1, h2]
  have hne : l ≠ k := by omega
  rw [if_neg hne]
theorem obj_new {k : Nat} {o : HO} : b.obj (s.new o) k = if s.n = k then o else b.obj s k := by
 unfold Bs.obj Ov.new
 simp only [lookO]
 by_cases e : s.n = k
 ·rw [if_pos e]; subst e; simp
 ·rw [beq_ne e, if_neg e]; rfl
theorem heap_new {o : HO} : b.heap (s.new o) = b.heap s ++ [o] := by
 apply List.ext_getElem?
 intro k
 by_cases hk : k < s.n
 ·rw [List.getElem?_append_left (by rw [heap_len]; exact hk), heap_get hk, heap_get (s := s.new o) (by show k < s.n + 1; omega), obj_new, if_neg (by omega)]
 ·rw [List.getElem?_append_right (by rw [heap_len]; omega), heap_len]
  by_cases e : s.n = k
  ·subst e
   rw [heap_get (s := s.new o) (by show s.n < s.n + 1; omega), obj_new, if_pos rfl]; simp
  ·rw [List.getElem?_eq_none (by rw [heap_len]; show s.n + 1 ≤ k; omega), List.getElem?_eq_none (by simp; omega)]
end

structure Sta (n : Nat) (W : Base) (F : List Atom) (b : Bs) (E : Env) (g w : World) (s : Ov) (a : Act) : Prop where
 size : a.tmps.size = n
 defers : a.defers = []
 fr : ∀ t v, b.slot s t = some v → RelV E g v (a.tmps.getD t undef)
 sat : Sat W E g w (b.heap s) F
 top : ∀ l, s.n ≤ l → b.obj s l = .gone
section
variable {P : Program} {n : Nat} {W : Base} {F : List Atom} {b : Bs} {E E' : Env} {g g' w w' : World} {s s' : Ov} {a : Act}
theorem Sta.len (S : Sta n W F b E g w s a) : E.length = s.n := by rw [S.sat.len, heap_len]
theorem Sta.lt (S : Sta n W F b E g w s a) {l : Nat} {v : Value} (h : E[l]? = some v) : l < s.n := by
 have := (List.getElem?_eq_some_iff.1 h).1
 rw [S.len] at this; exact this
theorem Sta.m (S : Sta n W F b E g w s a) : Mono g w := S.sat.m
theorem Sta.le (S : Sta n W F b E g w s a) (l : Le w w') : Sta n W F b E g w' s a := ⟨S.size, S.defers, S.fr, S.sat.le l, S.top⟩
theorem Sta.pick (S : Sta n W F b E g w s a) {l : Nat} {v : Value} (h : E[l]? = some v) : SL W g w (atomO E l (b.obj s l) :: dropA (atomsO E 0 (b.heap s) ++ F) l) := S.sat.pick (heap_get (S.lt h))
theorem Sta.back (S : Sta n W F b E g w s a) {l : Nat} {v : Value} (h : E[l]? = some v) (o' : HO) (m : Mono g g') (H : SL W g' w' (atomO E l o' :: dropA (atomsO E 0 (b.heap s) ++ F) l)) : Sta n W F b E g' w' (s.setO l o') a := by
 have hl := S.lt h
 refine ⟨S.size, S.defers, fun t v hv => (S.fr t v hv).mono (EnvLe.refl E) m, ?_, fun k hk => ?_⟩
 ·rw [heap_setO hl]
  exact Sat.back (o := b.obj s l) o' S.sat.len (heap_get hl) H
 ·rw [obj_setO, if_neg (by have : s.n ≤ k := hk; omega)]
  exact S.top k hk
theorem Sta.has (S : Sta n W F b E g w s a) {l : Nat} {v : Value} (h : E[l]? = some v) {p : Prop} (k : SL W g w (atomO E l (b.obj s l) :: dropA (atomsO E 0 (b.heap s) ++ F) l) → p) : p := k (S.pick h)
theorem Sta.new (S : Sta n W F b E g w s a) {o : HO} {v : Value} (m : Mono g g') (H : SL W g' w' (atomO (E ++ [v]) s.n o :: (atomsO E 0 (b.heap s) ++ F))) : Sta n W F b (E ++ [v]) g' w' (s.new o) a := by
 refine ⟨S.size, S.defers, fun t u hu => (S.fr t u hu).mono (EnvLe.app E [v]) m, ?_, fun k hk => ?_⟩
 ·rw [heap_new]
  refine Sat.push S.sat.len ?_
  rw [heap_len]; exact H
 ·rw [obj_new, if_neg (by have : s.n + 1 ≤ k := hk; omega)]
  exact S.top k (by have : s.n + 1 ≤ k := hk; omega)
theorem Sta.move (S : Sta n W F b E g w s a) {l : Nat} {v u : Value} {o2 : HO} (h : E[l]? = some u) (m : Mono g g') (H : SL W g' w' (atomO (E ++ [v]) s.n o2 :: dropA (atomsO E 0 (b.heap s) ++ F) l)) : Sta n W F b (E ++ [v]) g' w' ((s.setO l .gone).new o2) a := by
 have hl := S.lt h
 refine ⟨S.size, S.defers, fun t u hu => (S.fr t u hu).mono (EnvLe.app E [v]) m, ?_, fun k hk => ?_⟩
 ·rw [heap_new, heap_setO hl]
  refine Sat.move (o := b.obj s l) S.sat.len (heap_get hl) ?_
  rw [heap_len]; exact H
 ·have hk' : s.n + 1 ≤ k := hk
  rw [obj_new, if_neg (by show ¬ s.n = k; omega), obj_setO, if_neg (by omega)]
  exact S.top k (by omega)

theorem okB_ok : ∀ {v : Value}, okB v = true → okV v
 | .int k n, h => inK_wf.2 h
 | .string s, h => by
  have h' : decide (s.size ≤ maxLen) = true := h
  simpa [okV] using h'
 | .bool _, _ | .float .., _ | .complex .., _ | .pointer _, _ | .slice .., _ | .map _, _ | .chan _, _ | .func .., _ | .nilFunc, _ | .iface .., _ | .nilIface, _ => rfl
 | .agg _, h => h
 | .tuple _, h => h
theorem constCs_ok : ∀ {us : List Value} {l : List Cl}, constCs us = some l → RelCs E g l us
 | [], l, h => by
  obtain rfl : [] = l := Option.some.inj h
  exact RelCs.nil
 | v :: r, l, h => by
  unfold constCs at h
  split at h
  ·rename_i hv
   split at h
   ·rename_i q hq
    obtain rfl : .k v :: q = l := Option.some.inj h
    exact RelCs.cons ⟨rfl, okB_ok hv⟩ (constCs_ok hq)
   ·cases h
  ·cases h
theorem constV_ok {v : Value} {sv : SV} (h : constV v = some sv) : RelV E g sv v := by
 unfold constV at h
 split at h
 ·rename_i cs
  split at h
  ·rename_i l hl
   obtain rfl : SV.v (.agg l) = sv := Option.some.inj h
   exact ⟨cs.toList, constCs_ok hl, by simp⟩
  ·cases h
 ·split at h
  ·rename_i hk
   obtain rfl : SV.k v = sv := Option.some.inj h
   exact ⟨rfl, okB_ok hk⟩
  ·cases h
theorem Sta.opd (S : Sta n W F b E g w s a) {x : Operand} {v : SV} (h : Lm.opd b s x = some v) : RelV E g v (a.eval x) := by
 cases x with
 | tmp t => exact S.fr t v h
 | const u => exact constV_ok h
 | func f =>
  obtain rfl : SV.c (.fn f []) = v := Option.some.inj h
  exact ⟨[], RelCs.nil, rfl⟩
 | global _ => cases h
theorem relV_int {k : IntKind} {m : Int} {u : Value} (h : RelV E g (.v (.c (.k (.int k m)))) u) : u = .int k m ∧ inK k m := h
theorem relV_mk {k : IntKind} {m : Int} (h : inK k m) : RelV E g (.v (.c (.k (.int k m)))) (.int k m) := ⟨rfl, h⟩
theorem relV_bool (q : Bool) : RelV E g (.bool q) (.bool q) := ⟨rfl, rfl⟩

theorem wrap_inK (k : IntKind) (z : Int) : inK k (k.wrap z) := by
 cases k <;> simp [inK, IntKind.wrap, IntKind.signed, IntKind.bits] <;> refine ⟨?_, ?_⟩ <;> (try split) <;> omega
theorem wrap_self {k : IntKind} {z : Int} (h : inK k z) : k.wrap z = z := wrap_in (inK_wf.1 h)
theorem tmod_inK {k : IntKind} {x y : Int} (h : inK k x) : inK k (x.tmod y) := by
 have h1 : 0 ≤ x → 0 ≤ x.tmod y ∧ x.tmod y ≤ x := fun h => ⟨Int.tmod_nonneg y h, by
  have := Int.tmod_add_mul_tdiv x y
  rcases Int.lt_or_le y 0 with hy | hy
  ·have hq : x.tdiv y ≤ 0 := Int.tdiv_nonpos_of_nonneg_of_nonpos h (by omega)
   have : 0 ≤ y * x.tdiv y := Int.mul_nonneg_of_nonpos_of_nonpos (by omega) hq
   omega
  ·have hq : 0 ≤ x.tdiv y := Int.tdiv_nonneg h hy
   have : 0 ≤ y * x.tdiv y := Int.mul_nonneg hy hq
   omega⟩
 rcases Int.lt_or_le x 0 with hx | hx
 ·have h2 : x.tmod y = -((-x).tmod y) := by rw [Int.neg_tmod]; omega
  have h3 : 0 ≤ (-x).tmod y ∧ (-x).tmod y ≤ -x := by
   refine ⟨Int.tmod_nonneg y (by omega), ?_⟩
   have := Int.tmod_add_mul_tdiv (-x) y
   rcases Int.lt_or_le y 0 with hy | hy
   ·have hq : (-x).tdiv y ≤ 0 := Int.tdiv_nonpos_of_nonneg_of_nonpos (by omega) (by omega)
    have : 0 ≤ y * (-x).tdiv y := Int.mul_nonneg_of_nonpos_of_nonpos (by omega) hq
    omega
   ·have hq : 0 ≤ (-x).tdiv y := Int.tdiv_nonneg (by omega) hy
    have : 0 ≤ y * (-x).tdiv y := Int.mul_nonneg hy hq
    omega
  cases k <;> simp only [inK] at h ⊢ <;> omega
 ·have := h1 hx
  cases k <;> simp only [inK] at h ⊢ <;> omega
theorem fdiv_inK {k : IntKind} {x : Int} {m : Nat} (h : inK k x) : inK k (x.fdiv (2 ^ m)) := by
 have hp : (1 : Int) ≤ 2 ^ m := by
  have : (0 : Int) < 2 ^ m := Int.pow_pos (by decide)
  omega
 have e : x.fdiv (2 ^ m) = x / 2 ^ m := Int.fdiv_eq_ediv_of_nonneg x (by omega)
 rw [e]
 generalize (2 : Int) ^ m = p at hp
 have hd := Int.mul_ediv_add_emod x p
 have h0 := Int.emod_nonneg x (show p ≠ 0 by omega)
 have h1 := Int.emod_lt_of_pos x (show 0 < p by omega)
 rcases Int.lt_or_le x 0 with hx | hx
 ·have hq : x / p < 0 := Int.ediv_neg_of_neg_of_pos hx (by omega)
  have : x ≤ x / p := by
   have h2 : p * (x / p) ≤ 1 * (x / p) := Int.mul_le_mul_of_nonpos_right hp (by omega)
   have h3 : x < p * (x / p) + p := by omega
   rcases Int.lt_or_le (x / p) x with h4 | h4
   ·exfalso
    have h5 : x / p + 1 ≤ x := by omega
    have h6 : p * (x / p) ≤ x := by omega
    have h7 : p * (x / p + 1) ≤ 1 * (x / p + 1) := Int.mul_le_mul_of_nonpos_right hp (by omega)
    rw [Int.mul_add, Int.mul_one] at h7
    omega
   ·exact h4
  cases k <;> simp only [inK] at h ⊢ <;> omega
 ·have hq : 0 ≤ x / p := Int.ediv_nonneg hx (by omega)
  have : x / p ≤ x := Int.ediv_le_self p hx
  cases k <;> simp only [inK] at h ⊢ <;> omega
end
end Go.Lm

namespace Go.Lm
open Go Go.RowKit
theorem eqF_struct {P : Program} {w : World} {d n : Nat} {xs ys : Array Value} {f : Field} {fs : List Field} {gs : Array Field} {a b : Bool} (hn : (f.name != "_") = true) (hu : P.underlying f.type = some (.struct gs)) (hi : ((P.info? f.type).map (·.size)) = some n) (hp : P.stoodInHeld f.type = false)
  (hx : (Op.eqFields d (xs.extract f.offset (f.offset + n)) (ys.extract f.offset (f.offset + n)) gs.toList).run P w = .ok a w) (hr : (Op.eqFields (d + 1) xs ys fs).run P w = .ok b w) : (Op.eqFields (d + 1) xs ys (f :: fs)).run P w = .ok (a && b) w := by
 have hp1 : ∀ cs : Array Value, (part f.type cs f.offset).run P w = .ok (.agg (cs.extract f.offset (f.offset + n))) w := fun cs => by
  cases hq : P.info? f.type with
  | none => simp [hq] at hi
  | some i =>
   simp [hq] at hi
   subst hi
   simp [part, isAgg, sizeOf, typeInfo, run_underlying hu, go_sem, hq]
 have hne : f.name ≠ "_" := by simpa using hn
 have hfs : P.fieldsOf f.type = gs := by unfold Program.fieldsOf; rw [hu]
 have he := run_equalIn_struct (P := P) w d f.type (xs.extract f.offset (f.offset + n)) (ys.extract f.offset (f.offset + n)) (by rw [hfs]; exact hu) hp
 rw [hfs, hx] at he
 simp only [Op.eqFields, if_pos hne, Sem.run_bind, hp1, Result.andThen_ok, he]
 cases a
 ·simp [go_sem]
 ·simp [hr]
theorem eqF_str {P : Program} {w : World} {d : Nat} {xs ys : Array Value} {f : Field} {fs : List Field} {m n : ByteArray} {b : Bool} (hn : (f.name != "_") = true) (hu : P.underlying f.type = some .string) (hi : ((P.info? f.type).map (·.size)) = some 1)
  (hx : xs[f.offset]? = some (.string m)) (hy : ys[f.offset]? = some (.string n)) (hr : (Op.eqFields (d + 1) xs ys fs).run P w = .ok b w) : (Op.eqFields (d + 1) xs ys (f :: fs)).run P w = .ok ((m.toList == n.toList) && b) w := by
 have hpx : (part f.type xs f.offset).run P w = .ok (.string m) w := by
  cases hq : P.info? f.type with
  | none => simp [hq] at hi
  | some i => simp [part, isAgg, run_underlying hu, go_sem, hx]
 have hpy : (part f.type ys f.offset).run P w = .ok (.string n) w := by
  cases hq : P.info? f.type with
  | none => simp [hq] at hi
  | some i => simp [part, isAgg, run_underlying hu, go_sem, hy]
 have hne : f.name ≠ "_" := by simpa using hn
 have he : (Op.equalIn (d + 1) f.type (.string m) (.string n)).run P w = .ok (m.toList == n.toList) w := by
  simp [Op.equalIn, run_underlying hu, go_sem, beq_toListBytes]
 simp only [Op.eqFields, if_pos hne, Sem.run_bind, hpx, hpy, Result.andThen_ok, he]
 cases hb : m.toList == n.toList
 ·simp [go_sem]
 ·simp [hr]
end Go.Lm

namespace Go.Lm
open Go Go.RowKit
theorem eqF_bool {P : Program} {w : World} {d : Nat} {xs ys : Array Value} {f : Field} {fs : List Field} {m n : Bool} {b : Bool} (hn : (f.name != "_") = true) (hu : P.underlying f.type = some .bool) (hi : ((P.info? f.type).map (·.size)) = some 1)
  (hx : xs[f.offset]? = some (.bool m)) (hy : ys[f.offset]? = some (.bool n)) (hr : (Op.eqFields (d + 1) xs ys fs).run P w = .ok b w) : (Op.eqFields (d + 1) xs ys (f :: fs)).run P w = .ok ((m == n) && b) w := by
 have hpx : (part f.type xs f.offset).run P w = .ok (.bool m) w := by
  cases hq : P.info? f.type with
  | none => simp [hq] at hi
  | some i => simp [part, isAgg, run_underlying hu, go_sem, hx]
 have hpy : (part f.type ys f.offset).run P w = .ok (.bool n) w := by
  cases hq : P.info? f.type with
  | none => simp [hq] at hi
  | some i => simp [part, isAgg, run_underlying hu, go_sem, hy]
 have hne : f.name ≠ "_" := by simpa using hn
 have he : (Op.equalIn (d + 1) f.type (.bool m) (.bool n)).run P w = .ok (m == n) w := by
  simp [Op.equalIn, run_underlying hu, go_sem]
 simp only [Op.eqFields, if_pos hne, Sem.run_bind, hpx, hpy, Result.andThen_ok, he]
 cases hb : m == n
 ·simp [go_sem]
 ·simp [hr]
end Go.Lm

namespace Go.Lm
open Go Go.RowKit

def Out (n : Nat) (W : Base) (F : List Atom) (b : Bs) (E : Env) (g : World) (a : Act) (K : SV → Ov → Prop) (v : Value) (w' : World) : Prop :=
 ∃ E' g' s' sv, EnvLe E E' ∧ Mono g g' ∧ Sta n W F b E' g' w' s' a ∧ RelV E' g' sv v ∧ K sv s'
def OpR (P : Program) (o : Oper) (a : Act) (w : World) (R : Value → World → Prop) : Prop :=
 (∃ v w', (execOp a.eval o).run P w = .ok (.value v) w' ∧ R v w') ∨ (∃ w', (execOp a.eval o).run P w = .ok .skip w' ∧ R undef w') ∨ (∃ f args, (execOp a.eval o).run P w = .ok (.enter f args) w ∧ Ret P f args w R)
def PR (P : Program) (m : Sem Value) (w : World) (E : Env) (g : World) (K : SV → Prop) : Prop := ∃ v sv, m.run P w = .ok v w ∧ RelV E g sv v ∧ K sv
section
variable {P : Program} {n : Nat} {W : Base} {F : List Atom} {b : Bs} {E : Env} {g w : World} {s : Ov} {a : Act} {K : SV → Prop}
theorem run_intB {op : BinOp} {k : IntKind} {x y : Int} {t : TypeId} (hx : inK k x) (h : intB op k x y K) : PR P (binOp op t (.int k x) (.int k y)) w E g K := by
 have ar : ∀ {z : Int}, arith k z K → PR P (pure (Value.int k (k.wrap z))) w E g K := fun {z} h => by
  cases k <;> first
   | exact ⟨_, _, rfl, relV_mk (wrap_inK _ z), h (wrap_inK _ z)⟩
   | exact ⟨_, _, by rw [wrap_self (k := .i64) h.1]; rfl, relV_mk h.1, h.2⟩
 cases op
 case add =>
  have e : (binOp .add t (.int k x) (.int k y)) = pure (Value.int k (k.wrap (x + y))) := by simp [binOp, Op.intArith]
  rw [e]; exact ar h
 case sub =>
  have e : (binOp .sub t (.int k x) (.int k y)) = pure (Value.int k (k.wrap (x - y))) := by simp [binOp, Op.intArith]
  rw [e]; exact ar h
 case mul =>
  have e : (binOp .mul t (.int k x) (.int k y)) = pure (Value.int k (k.wrap (x * y))) := by simp [binOp, Op.intArith]
  rw [e]; exact ar h
 case quo =>
  obtain ⟨hy, h⟩ := h
  have e : (binOp .quo t (.int k x) (.int k y)) = pure (Value.int k (k.wrap (x.tdiv y))) := by simp [binOp, Op.intDiv, hy]
  rw [e]; exact ar h
 case rem =>
  obtain ⟨hy, h⟩ := h
  have e : (binOp .rem t (.int k x) (.int k y)) = pure (Value.int k (x.tmod y)) := by simp [binOp, Op.intDiv, hy]
  rw [e]; exact ⟨_, _, rfl, relV_mk (tmod_inK hx), h (tmod_inK hx)⟩
 case shl => exact h.elim
 case shr => exact h.elim
 case and =>
  have e : (binOp .and t (.int k x) (.int k y)) = pure (Value.int k (bitsI .and k x y)) := by simp [binOp, Op.intBits, bitsI]
  rw [e]; exact ⟨_, _, rfl, relV_mk (wrap_inK _ _), h (wrap_inK _ _)⟩
 case or =>
  have e : (binOp .or t (.int k x) (.int k y)) = pure (Value.int k (bitsI .or k x y)) := by simp [binOp, Op.intBits, bitsI]
  rw [e]; exact ⟨_, _, rfl, relV_mk (wrap_inK _ _), h (wrap_inK _ _)⟩
 case xor =>
  have e : (binOp .xor t (.int k x) (.int k y)) = pure (Value.int k (bitsI .xor k x y)) := by simp [binOp, Op.intBits, bitsI]
  rw [e]; exact ⟨_, _, rfl, relV_mk (wrap_inK _ _), h (wrap_inK _ _)⟩
 case andNot =>
  have e : (binOp .andNot t (.int k x) (.int k y)) = pure (Value.int k (bitsI .andNot k x y)) := by simp [binOp, Op.intBits, bitsI]
  rw [e]; exact ⟨_, _, rfl, relV_mk (wrap_inK _ _), h (wrap_inK _ _)⟩
 all_goals exact ⟨_, _, by simp [binOp, Op.intCmp], relV_bool _, h⟩
theorem run_strB {op : BinOp} {x y : ByteArray} {t : TypeId} (h : strB op x y K) : PR P (binOp op t (.string x) (.string y)) w E g K := by
 cases op <;> try exact h.elim
 case add =>
  have e : (binOp .add t (.string x) (.string y)) = pure (Value.string (x ++ y)) := by
   have h1 : ¬ ((x.size + y.size : Nat) : Int) > IntKind.i64.max := by
    have := h.1
    simp [IntKind.max, IntKind.signed, IntKind.bits]; omega
   simp only [binOp, Op.stringOp, if_neg h1]
  rw [e]
  refine ⟨_, .str (x ++ y), rfl, ⟨rfl, ?_⟩, h.2⟩
  have := h.1
  show (x ++ y).size ≤ maxLen
  rw [ByteArray.size_append]; exact this
 all_goals exact ⟨_, _, by simp [binOp, Op.stringOp]; rfl, relV_bool _, h⟩
theorem run_intW {wr : Bool} {op : BinOp} {k : IntKind} {x y : Int} {t : TypeId} (hx : inK k x) (h : intW wr op k x y K) : PR P (binOp op t (.int k x) (.int k y)) w E g K := by
 unfold intW at h
 split at h
 ·split at h
  ·have e : (binOp .add t (.int .i64 x) (.int .i64 y)) = pure (Value.int .i64 (IntKind.wrap .i64 (x + y))) := by simp [binOp, Op.intArith]
   rw [e]; exact ⟨_, _, rfl, relV_mk (wrap_inK _ _), h (wrap_inK _ _)⟩
  ·have e : (binOp .sub t (.int .i64 x) (.int .i64 y)) = pure (Value.int .i64 (IntKind.wrap .i64 (x - y))) := by simp [binOp, Op.intArith]
   rw [e]; exact ⟨_, _, rfl, relV_mk (wrap_inK _ _), h (wrap_inK _ _)⟩
  ·have e : (binOp .mul t (.int .i64 x) (.int .i64 y)) = pure (Value.int .i64 (IntKind.wrap .i64 (x * y))) := by simp [binOp, Op.intArith]
   rw [e]; exact ⟨_, _, rfl, relV_mk (wrap_inK _ _), h (wrap_inK _ _)⟩
  ·exact run_intB hx h
 ·exact run_intB hx h
theorem part_int {e : TypeId} {k0 : IntKind} (hu : P.underlying e = some (.int k0)) (hi : ((P.info? e).map (·.size)) = some 1) {cs : Array Value} {j : Nat} {v : Value} (hx : cs[j]? = some v) : (part e cs j).run P w = .ok v w := by
 cases hq : P.info? e with
 | none => simp [hq] at hi
 | some i => simp [part, isAgg, run_underlying hu, go_sem, hx]
theorem run_eqInts {d : Nat} {e : TypeId} {k0 : IntKind} (hu : P.underlying e = some (.int k0)) (hi : ((P.info? e).map (·.size)) = some 1) : ∀ {xs ys : List Cl} {us vs pu pv : List Value} {r : Bool}, eqInts k0 xs ys = some r → RelCs E g xs us → RelCs E g ys vs → pu.length = pv.length → (Op.eqItems (d + 1) e 1 (pu ++ us).toArray (pv ++ vs).toArray (List.range' pu.length xs.length)).run P w = .ok r w
 | [], [], us, vs, pu, pv, r, h, _, _, _ => by
  obtain rfl : true = r := Option.some.inj h
  rfl
 | [], _ :: _, _, _, _, _, _, h, _, _, _ => by simp [eqInts] at h
 | _ :: _, [], _, _, _, _, _, h, _, _, _ => by simp [eqInts] at h
 | x :: xs, y :: ys, us, vs, pu, pv, r, h, ⟨u, us', e1, h1, h2⟩, ⟨v, vs', e2, h3, h4⟩, hl => by
  unfold eqInts at h
  split at h
  ·rename_i q1 _; exact absurd q1 (by simp)
  ·rename_i k m l k' m' l' q1 q2
   obtain ⟨rfl, rfl⟩ := List.cons.inj q1
   obtain ⟨rfl, rfl⟩ := List.cons.inj q2
   split at h
   ·rename_i hk
    rw [Bool.and_eq_true] at hk
    obtain rfl := IntKind.eq_of_beq hk.1
    obtain rfl := IntKind.eq_of_beq hk.2
    split at h
    ·rename_i q hq
     obtain rfl := Option.some.inj h
     obtain ⟨rfl, _⟩ := h1
     obtain ⟨rfl, _⟩ := h3
     subst e1 e2
     have ih := run_eqInts (d := d) (pu := pu ++ [.int k0 m]) (pv := pv ++ [.int k0 m']) hu hi hq h2 h4 (by simp [hl])
     rw [List.append_assoc, List.append_assoc, List.length_append] at ih
     have hx : (pu ++ Value.int k0 m :: us').toArray[pu.length * 1]? = some (.int k0 m) := by simp
     have hy : (pv ++ Value.int k0 m' :: vs').toArray[pu.length * 1]? = some (.int k0 m') := by simp [hl]
     have hpx := part_int (w := w) hu hi hx
     have hpy := part_int (w := w) hu hi hy
     have he : (Op.equalIn (d + 1) e (.int k0 m) (.int k0 m')).run P w = .ok (m == m') w := by
      simp [Op.equalIn, run_underlying hu, go_sem]
     show (Op.eqItems (d + 1) e 1 (pu ++ Value.int k0 m :: us').toArray (pv ++ Value.int k0 m' :: vs').toArray (pu.length :: List.range' (pu.length + 1) xs.length)).run P w = _
     simp only [Op.eqItems, Sem.run_bind, hpx, hpy, Result.andThen_ok, he]
     cases hb : m == m'
     ·simp [go_sem]
     ·simpa using ih
    ·cases h
   ·cases h
  ·cases h
theorem run_eqArr {d : Nat} {t e : TypeId} {n : Nat} {xs ys : List Cl} {us vs : List Value} {r : Bool} (ht : P.underlying t = some (.array n e)) (h : eqArr P n e xs ys = some r) (hx : RelCs E g xs us) (hy : RelCs E g ys vs) : (Op.equalIn (d + 2) t (.agg us.toArray) (.agg vs.toArray)).run P w = .ok r w := by
 unfold eqArr at h
 split at h
 ·rename_i k0 i hu hi
  split at h
  ·rename_i hs
   rw [Bool.and_eq_true] at hs
   have h1 := Nat.eq_of_beq_eq_true hs.1
   have h2 := Nat.eq_of_beq_eq_true hs.2
   have hc : P.cellsOf e = 1 := by unfold Program.cellsOf; rw [hi]; exact h1
   rw [run_equalIn_array w (d + 1) us.toArray vs.toArray ht hi, hc, ← h2, List.range_eq_range']
   exact run_eqInts (pu := []) (pv := []) hu (by rw [hi]; exact congrArg some h1) h hx hy rfl
  ·cases h
 ·cases h
theorem run_eqFs : ∀ (fuel : Nat) {fs : List Field} {xs ys : List Cl} {us vs : List Value} {r : Bool} {d : Nat}, eqFs P fuel fs xs ys = some r → RelCs E g xs us → RelCs E g ys vs → fuel ≤ d → (Op.eqFields d us.toArray vs.toArray fs).run P w = .ok r w
 | 0, _, _, _, _, _, _, _, h, _, _, _ => by simp [eqFs] at h
 | f + 1, [], _, _, _, _, r, d, h, _, _, hd => by
  obtain rfl : true = r := Option.some.inj h
  obtain ⟨d, rfl⟩ : ∃ k, d = k + 1 := ⟨d - 1, by omega⟩
  exact eqF_nil
 | fu + 1, f :: fs, xs, ys, us, vs, r, d, h, hx, hy, hd => by
  obtain ⟨d, rfl⟩ : ∃ k, d = k + 1 := ⟨d - 1, by omega⟩
  unfold eqFs at h
  split at h
  ·rename_i hn
   split at h
   ·rename_i k i hu hi
    split at h
    ·rename_i hsz
     have hsz' : (P.info? f.type).map (·.size) = some 1 := by rw [hi]; exact congrArg some (Nat.eq_of_beq_eq_true hsz)
     split at h
     ·rename_i k1 m k2 m2 hax hay
      split at h
      ·rename_i hk
       rw [Bool.and_eq_true] at hk
       obtain rfl := IntKind.eq_of_beq hk.1
       obtain rfl := IntKind.eq_of_beq hk.2
       split at h
       ·rename_i q hq
        obtain rfl := Option.some.inj h
        obtain ⟨u, h1, h2, h3⟩ := hx.get hax
        obtain ⟨v, h4, h5, h6⟩ := hy.get hay
        subst h2; subst h5
        exact eqF_int hn hu hsz' (by simpa using h1) (by simpa using h4) (run_eqFs fu hq hx hy (by omega))
       ·cases h
      ·cases h
     ·cases h
    ·cases h
   ·rename_i i hu hi
    split at h
    ·rename_i hsz
     have hsz' : (P.info? f.type).map (·.size) = some 1 := by rw [hi]; exact congrArg some (Nat.eq_of_beq_eq_true hsz)
     split at h
     ·rename_i m m2 hax hay
      split at h
      ·rename_i q hq
       obtain rfl := Option.some.inj h
       obtain ⟨u, h1, h2, h3⟩ := hx.get hax
       obtain ⟨v, h4, h5, h6⟩ := hy.get hay
       subst h2; subst h5
       exact eqF_bool hn hu hsz' (by simpa using h1) (by simpa using h4) (run_eqFs fu hq hx hy (by omega))
      ·cases h
     ·cases h
    ·cases h
   ·rename_i i hu hi
    split at h
    ·rename_i hsz
     have hsz' : (P.info? f.type).map (·.size) = some 1 := by rw [hi]; exact congrArg some (Nat.eq_of_beq_eq_true hsz)
     split at h
     ·rename_i m m2 hax hay
      split at h
      ·rename_i q hq
       obtain rfl := Option.some.inj h
       obtain ⟨u, h1, h2, h3⟩ := hx.get hax
       obtain ⟨v, h4, h5, h6⟩ := hy.get hay
       subst h2; subst h5
       exact eqF_str hn hu hsz' (by simpa using h1) (by simpa using h4) (run_eqFs fu hq hx hy (by omega))
      ·cases h
     ·cases h
    ·cases h
   ·rename_i gs i hu hi
    split at h
    ·cases h
    ·rename_i hp
     split at h
     ·rename_i q1 hq1
      split at h
      ·rename_i q hq
       obtain rfl := Option.some.inj h
       refine eqF_struct hn hu (by rw [hi]; rfl) (by simpa using hp) ?_ (run_eqFs fu hq hx hy (by omega))
       have := run_eqFs fu (d := d) hq1 ((hx.drop f.offset).take i.size) ((hy.drop f.offset).take i.size) (by omega)
       rw [show (us.toArray.extract f.offset (f.offset + i.size)) = ((us.drop f.offset).take i.size).toArray by rw [List.extract_toArray, List.extract_eq_take_drop, Nat.add_sub_cancel_left],
        show (vs.toArray.extract f.offset (f.offset + i.size)) = ((vs.drop f.offset).take i.size).toArray by rw [List.extract_toArray, List.extract_eq_take_drop, Nat.add_sub_cancel_left]]
       exact this
      ·cases h
     ·cases h
   ·cases h
  ·cases h

def nilVal : Value → Bool
 | .pointer none | .slice none _ _ | .map none | .nilFunc | .nilIface => true
 | _ => false
def valTy (d : Option TypeDesc) (u : Value) : Bool := match d, u with
 | some (.pointer _), .pointer _ => true
 | some (.slice _), .slice _ _ _ => true
 | some (.map _ _), .map _ => true
 | some (.func _ _ _), .nilFunc | some (.func _ _ _), .func .. => true
 | some (.interface _), .nilIface | some (.interface _), .iface .. => true
 | _, _ => false
theorem isD_slice {e : Ty} {v : Value} {x : List e.den} (h : IsD e g v x) : ∃ a n c, v = .slice a n c ∧ (a = none → x = []) := by
 rcases (@is_list e.den e.rep g v x).1 h with ⟨h1, h2⟩ | ⟨a, c, h1, _⟩
 ·exact ⟨none, 0, 0, h1, fun _ => h2⟩
 ·exact ⟨some a, _, c, h1, fun h => by cases h⟩
theorem ofTy_val {d : Option TypeDesc} {x : Cl} {u : Value} (h : ofTy d x = true) (r : RelC E g x u) : valTy d u = true := by
 unfold ofTy at h
 split at h <;> first | (cases h; done) | skip
 ·obtain ⟨rfl, _⟩ := r; rfl
 ·obtain ⟨b, _, rfl⟩ := r; rfl
 ·obtain ⟨h0, v, h1, h2⟩ := r
  obtain ⟨cs, h3, _⟩ := elemD h1 h0.1 h0.2.1
  obtain ⟨q, hq, _⟩ := h3 g (Mono.refl g)
  rw [h2, hq]; rfl
 ·obtain ⟨v, _, _, q, rfl⟩ := r; rfl
 ·obtain ⟨rfl, _⟩ := r; rfl
 ·obtain ⟨q, n, c, rfl, _⟩ := isD_slice r; rfl
 ·obtain ⟨_, q, n, c, rfl⟩ := r; rfl
 ·obtain ⟨rfl, _⟩ := r; rfl
 ·obtain ⟨b, _, rfl⟩ := r; rfl
 ·obtain ⟨rfl, _⟩ := r; rfl
 ·obtain ⟨us, _, rfl⟩ := r; rfl
 ·obtain ⟨rfl, _⟩ := r; rfl
 ·obtain ⟨v, _, rfl⟩ := r; rfl
theorem nilTy_val {d : Option TypeDesc} {y : Cl} {v : Value} (h : nilTy d y = true) (r : RelC E g y v) : valTy d v = true ∧ nilVal v = true := by
 unfold nilTy at h
 split at h <;> first | (cases h; done) | skip
 all_goals
  obtain ⟨rfl, _⟩ := r
  exact ⟨rfl, rfl⟩
theorem equalIn_nil {t : TypeId} {u v : Value} (k : Nat) (hu : valTy (P.underlying t) u = true) (hv : valTy (P.underlying t) v = true) (hn : nilVal v = true) :
  (Op.equalIn (k + 1) t u v).run P w = .ok (nilVal u) w ∧ (Op.equalIn (k + 1) t v u).run P w = .ok (nilVal u) w := by
 cases hd : P.underlying t with
 | none => rw [hd] at hu; cases u <;> cases hu
 | some d =>
  rw [hd] at hu hv
  cases d <;> (try (cases u <;> cases hu; done)) <;> cases u <;> (try (cases hu; done)) <;> cases v <;> (try (cases hv; done)) <;> (try (cases hn; done))
  case pointer.pointer.pointer e p q =>
   cases q with
   | some q => cases hn
   | none => cases p <;> constructor <;> simp [Op.equalIn, run_underlying hd, nilVal]
  case slice.slice.slice e p n c q n' c' =>
   cases q with
   | some q => cases hn
   | none => cases p <;> constructor <;> simp [Op.equalIn, run_underlying hd, nilVal]
  case map.map.map k e p q =>
   cases q with
   | some q => cases hn
   | none => cases p <;> constructor <;> simp [Op.equalIn, run_underlying hd, nilVal]
  all_goals constructor <;> simp [Op.equalIn, run_underlying hd, nilVal]
theorem equal_nil {t : TypeId} {u v : Value} (hu : valTy (P.underlying t) u = true) (hv : valTy (P.underlying t) v = true) (hn : nilVal v = true) :
  (Op.equal t u v).run P w = .ok (nilVal u) w ∧ (Op.equal t v u).run P w = .ok (nilVal u) w := equalIn_nil 9999 hu hv hn
end
end Go.Lm

namespace Go.Lm
open Go Go.RowKit
section
variable {P : Program} {n : Nat} {W : Base} {F : List Atom} {b : Bs} {E : Env} {g w : World} {s : Ov} {a : Act} {K : SV → Prop}
theorem guard_val {op : BinOp} {t : TypeId} {ox oy : Operand} {u v : Value} (hu : valTy (P.underlying t) u = true) (hc : u = .nilIface → v = .nilIface → (isConst ox || isConst oy) = true) : (eqGuard op t ox oy u v).run P w = .ok () w := by
  unfold eqGuard
  cases op <;> simp <;> cases u <;> (try rfl) <;> cases v <;> (try rfl)
  all_goals first
    | (cases hd : P.underlying t with
       | none => rw [hd] at hu; cases hu
       | some d => rw [hd] at hu; cases d <;> cases hu)
    | (have := hc rfl rfl
       cases ox <;> cases oy <;> simp [isConst] at this ⊢)
theorem bin_nil {op : BinOp} {t : TypeId} {ox oy : Operand} {u v : Value} {e : Bool} (he : isEq op = some e) (hu : valTy (P.underlying t) u = true) (hv : valTy (P.underlying t) v = true) (hn : nilVal v = true)
  (hc : u = .nilIface → v = .nilIface → (isConst ox || isConst oy) = true) :
  (do eqGuard op t ox oy u v; binOp op t u v : Sem Value).run P w = .ok (.bool (if e then nilVal u else !nilVal u)) w ∧ (do eqGuard op t ox oy v u; binOp op t v u : Sem Value).run P w = .ok (.bool (if e then nilVal u else !nilVal u)) w := by
 obtain ⟨h1, h2⟩ := equal_nil (P := P) (w := w) hu hv hn
 have g1 := guard_val (op := op) (ox := ox) (oy := oy) (w := w) hu hc
 have g2 := guard_val (P := P) (op := op) (ox := ox) (oy := oy) (w := w) (u := v) (v := u) hv fun a b => hc b a
 have b1 : ∀ x y : Value, valTy (P.underlying t) x = true → valTy (P.underlying t) y = true → binOp .eql t x y = (do pure (.bool (← Op.equal t x y))) ∧ binOp .neq t x y = (do pure (.bool (!(← Op.equal t x y)))) := fun x y hx hy => by
  cases hd : P.underlying t with
  | none => rw [hd] at hx; cases x <;> cases hx
  | some d =>
   rw [hd] at hx hy
   cases d <;> (try (cases x <;> cases hx; done)) <;> cases x <;> (try (cases hx; done)) <;> cases y <;> (try (cases hy; done)) <;> exact ⟨rfl, rfl⟩
 unfold isEq at he
 cases op <;> cases he
 ·exact ⟨by rw [Sem.run_bind, g1, Result.andThen_ok, (b1 u v hu hv).1, Sem.run_bind, h1]; rfl, by rw [Sem.run_bind, g2, Result.andThen_ok, (b1 v u hv hu).1, Sem.run_bind, h2]; rfl⟩
 ·exact ⟨by rw [Sem.run_bind, g1, Result.andThen_ok, (b1 u v hu hv).2, Sem.run_bind, h1]; rfl, by rw [Sem.run_bind, g2, Result.andThen_ok, (b1 v u hv hu).2, Sem.run_bind, h2]; rfl⟩
theorem slO_nil {e : Ty} {t : TypeId} {v : Value} {xs : List e.den} {l : List Atom} (H : SL W g w (slO e t v xs :: l)) : (∃ q m c, v = .slice q m c ∧ (q = none → xs = [])) := by
 letI := e.rep
 have h := SL.slIs0 (α := e.den) H
 rcases is_list.1 h with ⟨h1, h2⟩ | ⟨q, c, h1, _⟩
 ·exact ⟨none, 0, 0, h1, fun _ => h2⟩
 ·exact ⟨some q, _, c, h1, fun h => by cases h⟩
theorem St_sl (S : Sta n W F b E g w s a) {l : Nat} {v : Value} (h : E[l]? = some v) {t : TypeId} {e : Ty} {xs : List e.den} (ho : b.obj s l = .sl t e xs) : SL W g w (slO e t v xs :: dropA (atomsO E 0 (b.heap s) ++ F) l) := by
 have H := S.pick h
 rw [ho] at H
 refine H.weak fun k ⟨h1, h2, ap, q, ⟨u, s1, s2⟩, s3⟩ => ⟨h1, h2, ap, q, ?_, s3⟩
 rw [h] at s1
 obtain rfl := Option.some.inj s1
 exact s2
theorem St_held (S : Sta n W F b E g w s a) {l : Nat} {v : Value} (h : E[l]? = some v) {t : TypeId} {e : Ty} {xs : List e.den} (ho : b.obj s l = .held t e xs) : IsD e g v xs := by
 have H := S.pick h
 rw [ho] at H
 obtain ⟨k, _, _, _, h1, h2, ap, q, ⟨u, s1, s2⟩, s3⟩ := H
 rw [h] at s1
 obtain rfl := Option.some.inj s1
 exact s2
theorem St_cells (S : Sta n W F b E g w s a) {l : Nat} {bb : Nat} (h : E[l]? = some (ptr bb 0)) {t : TypeId} {cs : List Cl} (ho : b.obj s l = .cells t cs) : ∃ us, RelCs E g cs us ∧ Blk w bb us.toArray t ∧ SL W g w (blk bb us.toArray t :: dropA (atomsO E 0 (b.heap s) ++ F) l) := by
 have H := S.pick h
 rw [ho] at H
 obtain ⟨k, be, se, ow, h1, h2, ap, q, ⟨b', us, s1, s2, s3⟩, s4⟩ := H
 rw [h] at s1
 have : bb = b' := by
  have := Option.some.inj s1
  simp [ptr] at this; exact this
 subst this
 have H' : SL W g w (blk bb us.toArray t :: dropA (atomsO E 0 (b.heap s) ++ F) l) := ⟨k, be, se, ow, h1, h2, ap, q, s3, s4⟩
 exact ⟨us, s2, H'.has0.2.1, H'⟩
theorem nilK_ok (S : Sta n W F b E g w s a) {d : Option TypeDesc} {x : Cl} {u : Value} {cst e : Bool} (ht : ofTy d x = true) (r : RelC E g x u) (h : nilK b s cst x e K) : K (.bool (if e then nilVal u else !nilVal u)) ∧ (u = .nilIface → cst = true) := by
  unfold nilK at h
  split at h
  · rename_i hn
    unfold nilOf at hn
    split at hn <;> (try (cases hn; done))
    all_goals first
      | (obtain ⟨rfl, _⟩ := r
         simp only [isIface, Bool.true_and, Bool.false_and, Bool.false_eq_true, if_false] at h
         first
           | (cases cst
              · simp at h
              · simp only [Bool.not_true, Bool.false_eq_true, if_false] at h
                cases e <;> exact ⟨h, fun _ => rfl⟩)
           | (cases e <;> exact ⟨h, fun q => by cases q⟩))
      | (split at hn <;> cases hn)
  · rename_i hn
    have hv : nilVal u = false ∧ u ≠ .nilIface := by
      unfold nilOf at hn
      split at hn <;> (try (cases hn; done))
      · obtain ⟨_, _, rfl⟩ := r; exact ⟨rfl, fun q => by cases q⟩
      · obtain ⟨h0, v, h1, h2⟩ := r
        obtain ⟨cs, h3, _⟩ := elemD h1 h0.1 h0.2.1
        obtain ⟨q, hq, _⟩ := h3 g (Mono.refl g)
        rw [h2, hq]; exact ⟨rfl, fun q => by cases q⟩
      · obtain ⟨v, _, _, q, rfl⟩ := r; exact ⟨rfl, fun q => by cases q⟩
      · obtain ⟨_, _, rfl⟩ := r; exact ⟨rfl, fun q => by cases q⟩
      · obtain ⟨_, _, rfl⟩ := r; exact ⟨rfl, fun q => by cases q⟩
      · obtain ⟨_, _, rfl⟩ := r; exact ⟨rfl, fun q => by cases q⟩
      · split at hn <;> cases hn
    rw [hv.1]
    exact ⟨by cases e <;> exact h, fun q => absurd q hv.2⟩
  · rename_i p hn
    have hv : (nilVal u = true → p) ∧ u ≠ .nilIface := by
      unfold nilOf at hn
      split at hn <;> (try (cases hn; done))
      · cases hn
        obtain ⟨q, m, c, rfl, hq⟩ := isD_slice r
        exact ⟨fun hz => hq (by cases q <;> first | rfl | cases hz), fun q => by cases q⟩
      · split at hn <;> (try (cases hn; done))
        · cases hn
          rename_i ho
          obtain ⟨q, m, c, rfl, hq⟩ := slO_nil (St_sl S r.1 ho)
          exact ⟨fun hz => hq (by cases q <;> first | rfl | cases hz), fun q => by cases q⟩
        · cases hn
          rename_i ho
          obtain ⟨q, m, c, rfl, hq⟩ := isD_slice (St_held S r.1 ho)
          exact ⟨fun hz => hq (by cases q <;> first | rfl | cases hz), fun q => by cases q⟩
    exact ⟨h _ hv.1, fun q => absurd q hv.2⟩
  · exact h.elim
theorem guard_scal {op : BinOp} {t : TypeId} {ox oy : Operand} {u v : Value} (h : (∃ k m k' m', u = .int k m ∧ v = .int k' m') ∨ (∃ x y, u = .string x ∧ v = .string y) ∨ (∃ x y, u = .bool x ∧ v = .bool y)) : (eqGuard op t ox oy u v).run P w = .ok () w := by
 rcases h with ⟨k, m, k', m', rfl, rfl⟩ | ⟨x, y, rfl, rfl⟩ | ⟨x, y, rfl, rfl⟩ <;> cases op <;> simp [eqGuard]
theorem PR.bind {m : Sem Unit} {f : Sem Value} (h : m.run P w = .ok () w) (k : PR P f w E g K) : PR P (do m; f) w E g K := by
 obtain ⟨v, sv, h1, h2, h3⟩ := k
 exact ⟨v, sv, by rw [Sem.run_bind, h]; exact h1, h2, h3⟩
theorem run_binV (S : Sta n W F b E g w s a) {wr : Bool} {op : BinOp} {t : TypeId} {ox oy : Operand} {x y : SV} {u v : Value} (rx : RelV E g x u) (ry : RelV E g y v) (h : binV wr P b s (isConst ox || isConst oy) op t x y K) :
  PR P (do eqGuard op t ox oy u v; binOp op t u v) w E g K := by
 unfold binV at h
 split at h
 ·obtain ⟨rfl, hx⟩ := relV_int rx
  obtain ⟨rfl, hy⟩ := relV_int ry
  refine PR.bind (guard_scal (.inl ⟨_, _, _, _, rfl, rfl⟩)) ?_
  split at h
  ·rename_i k m k' q _
   have e : (binOp .shl t (.int k m) (.int k' q)) = pure (.int k (shlI k m q)) := by simp [binOp, Op.shift, shlI, Int.not_lt.2 h.1]
   rw [e]; exact ⟨_, _, rfl, relV_mk (wrap_inK _ _), h.2 (wrap_inK _ _)⟩
  ·rename_i k m k' q _
   have e : (binOp .shr t (.int k m) (.int k' q)) = pure (.int k (shrI k m q)) := by simp [binOp, Op.shift, shrI, Int.not_lt.2 h.1]
   rw [e]; exact ⟨_, _, rfl, relV_mk (fdiv_inK hx), h.2 (fdiv_inK hx)⟩
  ·split at h
   ·rename_i hk
    obtain rfl := IntKind.eq_of_beq hk
    exact run_intW hx h
   ·exact h.elim
 ·obtain ⟨rfl, hx⟩ := rx
  obtain ⟨rfl, hy⟩ := ry
  exact PR.bind (guard_scal (.inr (.inl ⟨_, _, rfl, rfl⟩))) (run_strB h)
 ·obtain ⟨rfl, hx⟩ := rx
  obtain ⟨rfl, hy⟩ := ry
  refine PR.bind (guard_scal (.inr (.inr ⟨_, _, rfl, rfl⟩))) ?_
  split at h
  ·rename_i m q _ _ hu
   exact ⟨_, _, run_eql_bool w t m q hu, relV_bool _, h⟩
  ·rename_i m q _ _ hu
   exact ⟨_, _, run_neq_bool w t m q hu, relV_bool _, h⟩
  ·exact h.elim
 ·obtain ⟨us, hx, rfl⟩ := rx
  obtain ⟨vs, hy, rfl⟩ := ry
  split at h
  ·rename_i fs hu
   split at h
   ·exact h.elim
   ·rename_i hg
    simp only [Bool.not_eq_true, Bool.or_eq_false_iff] at hg
    have hgd : (eqGuard op t ox oy (.agg us.toArray) (.agg vs.toArray)).run P w = .ok () w := by
     cases op <;> simp [eqGuard, hg.1]
    refine PR.bind hgd ?_
    have hfs : P.fieldsOf t = fs := by unfold Program.fieldsOf; rw [hu]
    split at h
    ·rename_i r hr hq
     have he := run_eqFs (w := w) 9999 hq hx hy (Nat.le_refl _)
     have h2 := run_equalIn_struct (P := P) w 9999 t us.toArray vs.toArray (by rw [hfs]; exact hu) hg.2
     rw [hfs] at h2
     unfold isEq at hr
     cases op <;> cases hr
     exact ⟨_, _, by rw [run_eql_struct, h2, he]; rfl, relV_bool _, h⟩
    ·rename_i r hr hq
     have he := run_eqFs (w := w) 9999 hq hx hy (Nat.le_refl _)
     have h2 := run_equalIn_struct (P := P) w 9999 t us.toArray vs.toArray (by rw [hfs]; exact hu) hg.2
     rw [hfs] at h2
     unfold isEq at hr
     cases op <;> cases hr
     exact ⟨_, _, by rw [run_neq_struct, h2, he]; rfl, relV_bool _, h⟩
    ·exact h.elim
  ·rename_i n e hu
   split at h
   ·exact h.elim
   ·rename_i hg
    rw [Bool.not_eq_true] at hg
    have hgd : (eqGuard op t ox oy (.agg us.toArray) (.agg vs.toArray)).run P w = .ok () w := by
     cases op <;> simp [eqGuard, hg]
    refine PR.bind hgd ?_
    split at h
    ·rename_i r hr hq
     have he := run_eqArr (w := w) (d := 9998) hu hq hx hy
     unfold isEq at hr
     cases op <;> cases hr
     exact ⟨_, _, by rw [run_eql_struct, he]; rfl, relV_bool _, h⟩
    ·rename_i r hr hq
     have he := run_eqArr (w := w) (d := 9998) hu hq hx hy
     unfold isEq at hr
     cases op <;> cases hr
     exact ⟨_, _, by rw [run_neq_struct, he]; rfl, relV_bool _, h⟩
    ·exact h.elim
  ·exact h.elim
 ·split at h
  ·rename_i e he
   split at h
   ·rename_i ht
    rw [Bool.and_eq_true] at ht
    obtain ⟨h1, h2⟩ := nilK_ok S ht.2 rx h
    obtain ⟨n1, n2⟩ := nilTy_val ht.1 ry
    exact ⟨_, _, (bin_nil he (ofTy_val ht.2 rx) n1 n2 fun q _ => h2 q).1, relV_bool _, h1⟩
   ·split at h
    ·rename_i ht
     rw [Bool.and_eq_true] at ht
     obtain ⟨h1, h2⟩ := nilK_ok S ht.2 ry h
     obtain ⟨n1, n2⟩ := nilTy_val ht.1 rx
     exact ⟨_, _, (bin_nil he (ofTy_val ht.2 ry) n1 n2 fun q _ => h2 q).2, relV_bool _, h1⟩
    ·exact h.elim
  ·exact h.elim
 ·exact h.elim
theorem run_unV {wr : Bool} {op : UnOp} {x : SV} {u : Value} (rx : RelV E g x u) (h : unV wr op x K) : PR P (Op.unary op u) w E g K := by
 unfold unV at h
 split at h
 ·obtain ⟨rfl, _⟩ := rx
  exact ⟨_, _, rfl, relV_bool _, h⟩
 ·rename_i k m
  obtain ⟨rfl, hx⟩ := relV_int rx
  have e : (Op.unary .neg (.int k m)) = (binOp .sub 0 (.int k 0) (.int k m)) := by simp [Op.unary, Op.intArith, binOp]
  rw [e]
  exact run_intW (by cases k <;> exact ⟨by decide, by decide⟩) h
 ·rename_i k m
  obtain ⟨rfl, hx⟩ := relV_int rx
  have e : (Op.unary .xor (.int k m)) = pure (Value.int k (bitsI .xor k (if k.signed then -1 else k.max) m)) := by simp [Op.unary, Op.intBits, bitsI]
  rw [e]; exact ⟨_, _, rfl, relV_mk (wrap_inK _ _), h (wrap_inK _ _)⟩
 ·exact h.elim
end
end Go.Lm

namespace Go.Lm
open Go Go.RowKit
section
variable {P : Program} {n : Nat} {W : Base} {F : List Atom} {b : Bs} {E : Env} {g w : World} {s : Ov} {a : Act} {K : SV → Prop}
theorem addP_add (v : Value) (i j : Nat) : addP (addP v i) j = addP v (i + j) := by
 cases v with
 | pointer p =>
  cases p with
  | none => rfl
  | some q => simp [addP, Go.Deep.add_add]
 | _ => rfl
theorem load_elem {g1 : World} {k : Nat} {v : Value} {i : Int} {vs : List Value} {cs : List Cl} {t : TypeId} {off : Nat} {r : S1} (h : ElemAt g1 k v i vs) (m : Mono g1 w) (hc : RelCs E g cs vs) (hp : part1 P t cs off = some r) :
  ∃ u, (Instr.loadAt t (addP (elemP k v i) off)).run P w = .ok u w ∧ RelS E g r u := by
 unfold part1 at hp
 split at hp
 ·cases hp
 ·rename_i d hd
  split at hp
  ·rename_i hr
   split at hp
   ·rename_i ie hie
    split at hp
    ·rename_i hle
     obtain rfl := Option.some.inj hp
     have hl : off + ie.size ≤ vs.length := by rw [hc.length]; exact Nat.le_of_ble_eq_true hle
     exact ⟨_, run_elem_part h m hd hr (by rw [hie]; rfl) hl, _, (hc.drop off).take ie.size, rfl⟩
    ·cases hp
   ·cases hp
  ·rename_i hr
   split at hp
   ·rename_i c hcc
    obtain rfl := Option.some.inj hp
    obtain ⟨u, h1, h2⟩ := hc.get hcc
    exact ⟨u, run_elem_field h m hd (by simpa using hr) h1, h2⟩
   ·cases hp
theorem load_blk {bb : Nat} {us : List Value} {cs : List Cl} {t t' : TypeId} {off : Nat} {r : S1} (h : Blk w bb us.toArray t') (hc : RelCs E g cs us) (hp : part1 P t cs off = some r) :
  ∃ u, (Instr.loadAt t (ptr bb off)).run P w = .ok u w ∧ RelS E g r u := by
 unfold part1 at hp
 split at hp
 ·cases hp
 ·rename_i d hd
  split at hp
  ·rename_i hr
   split at hp
   ·rename_i ie hie
    split at hp
    ·rename_i hle
     obtain rfl := Option.some.inj hp
     have hl : off + ie.size ≤ us.length := by rw [hc.length]; exact Nat.le_of_ble_eq_true hle
     have hlen : ((us.drop off).take ie.size).length = ie.size := by simp; omega
     exact ⟨_, run_load_row (vs := (us.drop off).take ie.size) h hd hr (by rw [hie, hlen]; rfl) (by rw [hlen]), _, (hc.drop off).take ie.size, rfl⟩
    ·cases hp
   ·cases hp
  ·rename_i hr
   split at hp
   ·rename_i c hcc
    obtain rfl := Option.some.inj hp
    obtain ⟨u, h1, h2⟩ := hc.get hcc
    exact ⟨u, run_load_one h hd (by simpa using hr) (by simpa using h1), h2⟩
   ·cases hp
theorem own_elemD {e : Ty} {t : TypeId} {v : Value} {xs : List e.den} {i : Int} {l : List Atom} (H : SL W g w (slO e t v xs :: l)) (h0 : 0 ≤ i) (h1 : i < xs.length) : ∃ cs, ElemAt w e.size v i cs ∧ e.rep.rel g cs (ixD e xs i) := by
 letI := e.rep
 obtain ⟨cs, h2, h3⟩ := own_elem (α := e.den) H h0 h1
 have hs : GoRep.size e.den = e.size := Ty.rep_size e
 rw [hs] at h2
 refine ⟨cs, h2, ?_⟩
 have : ixD e xs i = xs[i.toNat]'(by omega) := by
  unfold ixD
  rw [List.getD_eq_getElem?_getD, List.getElem?_eq_getElem (by omega)]; rfl
 rw [this]; exact h3
theorem kk_under {P : Program} {t : TypeId} {k : Kk} (h : kkOk P t k = true) : P.underlying t = some (match k with | .int => .int .i64 | .str => .string) := by
 unfold kkOk at h
 split at h
 ·assumption
 ·assumption
 ·cases h
theorem keyOf_re {P P' : Program} {t : TypeId} {k : Kk} (h : kkOk P t k = true) (h' : kkOk P' t k = true) (v : Value) : keyOf P t v = keyOf P' t v := by
 have hu := kk_under h
 have hu' := kk_under h'
 cases k <;> simp only [keyOf, hu, hu', mapKey]
theorem mapA_re {P P' : Program} {t : TypeId} {k : Kk} (h : kkOk P t k = true) (h' : kkOk P' t k = true) {bb : Nat} {m : List (k.den × Value)} {hh : Hp} : (@mapA k.den k.key P t bb m).sat g hh → (@mapA k.den k.key P' t bb m).sat g hh := by
 letI := k.key
 rintro ⟨es, clock, h1, ⟨⟨f1, f2, f3⟩, h3⟩⟩
 have hrd : ∀ x, WideElems.rd P t holdV x = WideElems.rd P' t holdV x := fun x => by unfold WideElems.rd; rw [keyOf_re h h']
 refine ⟨es, clock, h1, ⟨⟨f1, f2, fun x hx => by rw [← hrd]; exact f3 x hx⟩, ?_⟩⟩
 have hrg : WideElems.rg P' t holdV = WideElems.rg P t holdV := funext fun x => by unfold WideElems.rg; rw [hrd]
 rw [hrg]; exact h3
theorem node_lens {P : Program} {T : UTy} {g w : World} {n : LNode} (h : NodeR P T g w n) : n.data.length ≤ 9223372036854775807 ∧ n.xattrs.length ≤ 9223372036854775807 ∧ n.target.size ≤ 9223372036854775807 ∧ n.ents.length ≤ 9223372036854775807 := by
 refine ⟨h.data.len_le, h.xattrs.len_le, h.target, ?_⟩
 have := h.ents.len_le
 unfold entsV at this
 rw [List.length_map] at this
 exact this
theorem one_mapVa {κ : Type} [MKey κ] {P : Program} {k : TypeId} {w : World} {v : Value} {m : List (κ × Value)} (h : MapV P k w v m) : v.oneCell' = true := by
 obtain ⟨_, ⟨rfl, _⟩ | ⟨b, rfl, _⟩⟩ := h <;> rfl
theorem mapVA_re {P P' : Program} {t : TypeId} {k : Kk} (h : kkOk P t k = true) (h' : kkOk P' t k = true) {v : Value} {m : List (k.den × Value)} {hh : Hp} (s : (@mapVA k.den k.key P t v m).sat g hh) : (@mapVA k.den k.key P' t v m).sat g hh := by
 letI := k.key
 rcases s with s | ⟨b, es, clock, e, hb, r⟩
 ·exact .inl s
 ·obtain ⟨es', clock', hb', r'⟩ := mapA_re (g := g) (bb := b) (m := m) (hh := hh) h h' ⟨es, clock, hb, r⟩
  exact .inr ⟨b, es', clock', e, hb', r'⟩
theorem St_upR (S : Sta n W F b E g w s a) {l : Nat} {v : Value} (h : E[l]? = some v) {T : UTy} {q1 q2 nx : Int} {mb : Nat} {L : List (Int × LNode)} (ho : b.obj s l = .up T q1 q2 mb nx L) : ∃ P' u, v = ptr u 0 ∧ UpIn q1 q2 nx L ∧ UpR P' T g w u q1 q2 mb nx L := by
 have H := S.pick h
 rw [ho] at H
 obtain ⟨k1, be, se, ow, h1, h2, ap, q, ⟨u, P', s1, hk', hin, s3⟩, s4⟩ := H
 rw [h] at s1
 obtain rfl := Option.some.inj s1
 have H2 : SL W g w (upA P' T u q1 q2 mb nx L :: dropA (atomsO E 0 (b.heap s) ++ F) l) := ⟨k1, be, se, ow, h1, h2, ap, q, s3, s4⟩
 rw [Bool.and_eq_true] at hk'
 exact ⟨P', u, rfl, hin, H2.upR0 (keyT_int (kk_under hk'.1))⟩
theorem upA_re {P P' : Program} {T : UTy} {u mb : Nat} {q1 q2 nx : Int} {L : List (Int × LNode)} (h : (kkOk P T.kI .int && kkOk P T.kS .str) = true) (h' : (kkOk P' T.kI .int && kkOk P' T.kS .str) = true) {hh : Hp} (s : (upA P T u q1 q2 mb nx L).sat g hh) : (upA P' T u q1 q2 mb nx L).sat g hh := by
 rw [Bool.and_eq_true] at h h'
 obtain ⟨k1, k2, ap, e, s1, k3, k4, ap2, e2, s2, s3⟩ := s
 refine ⟨k1, k2, ap, e, s1, k3, k4, ap2, e2, mapA_re (k := .int) h.1 h'.1 s2, ?_⟩
 have one : ∀ {n : LNode} {q : Hp}, (nodeA P T n).sat g q → (nodeA P' T n).sat g q := fun {n q} s => by
  obtain ⟨a1, a2, b1, c1, d1, a3, a4, b2, c2, d2, a5, a6, b3, c3, d3, a7, a8, b4, c4, d4, a9, a10, b5, c5, d5, r⟩ := s
  refine ⟨a1, a2, b1, c1, d1, a3, a4, b2, c2, d2, a5, a6, b3, c3, d3, a7, a8, b4, c4, d4, a9, a10, b5, c5, ?_, r⟩
  exact mapVA_re h.2 h'.2 d5
 have all : ∀ {M : List (Int × LNode)} {q : Hp}, sats g (M.map fun p => nodeA P T p.2) q → sats g (M.map fun p => nodeA P' T p.2) q := fun {M} => by
  induction M with
  | nil => exact fun s => s
  | cons p M ih => exact fun ⟨a, b, c, d, s1, s2⟩ => ⟨a, b, c, d, one s1, ih s2⟩
 exact all s3
theorem St_up {P : Program} (S : Sta n W F b E g w s a) {l : Nat} {v : Value} (h : E[l]? = some v) {T : UTy} {q1 q2 nx : Int} {mb : Nat} {L : List (Int × LNode)} (ho : b.obj s l = .up T q1 q2 mb nx L) (hk : (kkOk P T.kI .int && kkOk P T.kS .str) = true) :
  ∃ u, v = ptr u 0 ∧ UpIn q1 q2 nx L ∧ SL W g w (upA P T u q1 q2 mb nx L :: dropA (atomsO E 0 (b.heap s) ++ F) l) := by
 have H := S.pick h
 rw [ho] at H
 obtain ⟨k1, be, se, ow, h1, h2, ap, q, ⟨u, P', s1, hk', hin, s3⟩, s4⟩ := H
 rw [h] at s1
 obtain rfl := Option.some.inj s1
 exact ⟨u, rfl, hin, k1, be, se, ow, h1, h2, ap, q, upA_re hk' hk s3, s4⟩
theorem kk2_ok {P : Program} {T : UTy} : kk2 P T ↔ (kkOk P T.kI .int && kkOk P T.kS .str) = true := by
 constructor
 ·rintro ⟨h1, h2⟩
  simp [kkOk, h1, h2]
 ·intro h
  rw [Bool.and_eq_true] at h
  exact ⟨kk_under h.1, kk_under h.2⟩
theorem nodeR_of {P : Program} {T : UTy} {n : LNode} {l : List Atom} (H : SL W g w (nodeA P T n :: l)) : NodeR P T g w n := by
 obtain ⟨h1, h2, h3, h4, H2⟩ := H.nodeO
 exact ⟨H2.blk 0, h1, h2, h3, h4, (H2.pick 1).mapVR⟩
theorem SL.fzO {P : Program} {T : UTy} {u mb : Nat} {q1 q2 nx : Int} {L : List (Int × LNode)} {z : Option LNode} {hz : Hp} {l : List Atom} (H : SL W g w (fzA P T u q1 q2 mb nx L hz z :: l)) : (∀ m, z = some m → NodeIn m) ∧ SL W g w (upA P T u q1 q2 mb nx L :: (z.toList.map (Lm.nodeA P T) ++ l)) := by
 cases z with
 | none =>
  refine ⟨fun _ h => (by cases h), H.weak fun h s => ?_⟩
  obtain ⟨h1, h2, ap, e, ⟨_, s1⟩, s2⟩ := s
  exact ⟨h1, h2, ap, e, s1, s2⟩
 | some m =>
  have hi : NodeIn m := by
   obtain ⟨h, be, s, ow, h1, h2, ap, e, ⟨hi, _⟩, s2⟩ := H
   exact hi
  refine ⟨fun _ h => (by cases h; exact hi), H.weak fun h s => ?_⟩
  obtain ⟨k1, k2, ap, e, ⟨_, h1, a1, e1, s1, s2⟩, s3⟩ := s
  subst e1
  have a2 := Hp.apart_join.1 ap.symm
  refine ⟨h1, hz.join k2, Hp.apart_join.2 ⟨a1, a2.1.symm⟩, by rw [e, Hp.join_assoc], s1, ?_⟩
  exact ⟨hz, k2, a2.2.symm, rfl, s2, s3⟩
theorem St_fzP (S : Sta n W F b E g w s a) {l : Nat} {v : Value} (h : E[l]? = some v) {T : UTy} {q1 q2 nx : Int} {mb : Nat} {L : List (Int × LNode)} {z : Option LNode} {hz : Hp} (ho : b.obj s l = .ab (.fz T q1 q2 mb nx L z hz)) :
  ∃ u P', v = ptr u 0 ∧ kk2 P' T ∧ UpIn q1 q2 nx L ∧ SL W g w (fzA P' T u q1 q2 mb nx L hz z :: dropA (atomsO E 0 (b.heap s) ++ F) l) := by
 have H := S.pick h
 rw [ho] at H
 obtain ⟨k1, be, se, ow, h1, h2, ap, q, ⟨v', s1, u, P', rfl, hk, hin, s3⟩, s4⟩ := H
 rw [h] at s1
 obtain rfl := Option.some.inj s1
 exact ⟨u, P', rfl, hk, hin, k1, be, se, ow, h1, h2, ap, q, s3, s4⟩
theorem fz_re {P P' : Program} {T : UTy} {u mb : Nat} {q1 q2 nx : Int} {L : List (Int × LNode)} {z : Option LNode} {hz hh : Hp} (h : kk2 P' T) (h' : kk2 P T) (s : (fzA P' T u q1 q2 mb nx L hz z).sat g hh) : (fzA P T u q1 q2 mb nx L hz z).sat g hh := by
 cases z with
 | none => exact ⟨s.1, upA_re (kk2_ok.1 h) (kk2_ok.1 h') s.2⟩
 | some m =>
  obtain ⟨i, h1, a, e, s1, s2⟩ := s
  refine ⟨i, h1, a, e, upA_re (kk2_ok.1 h) (kk2_ok.1 h') s1, ?_⟩
  obtain ⟨a1, a2, b1, c1, d1, a3, a4, b2, c2, d2, a5, a6, b3, c3, d3, a7, a8, b4, c4, d4, a9, a10, b5, c5, d5, r⟩ := s2
  refine ⟨a1, a2, b1, c1, d1, a3, a4, b2, c2, d2, a5, a6, b3, c3, d3, a7, a8, b4, c4, d4, a9, a10, b5, c5, ?_, r⟩
  exact mapVA_re (k := .str) (Bool.and_eq_true _ _ ▸ kk2_ok.1 h).2 (Bool.and_eq_true _ _ ▸ kk2_ok.1 h').2 d5
theorem St_fzS {P : Program} (S : Sta n W F b E g w s a) {l : Nat} {v : Value} (h : E[l]? = some v) {T : UTy} {q1 q2 nx : Int} {mb : Nat} {L : List (Int × LNode)} {z : Option LNode} {hz : Hp} (ho : b.obj s l = .ab (.fz T q1 q2 mb nx L z hz)) (hk : (kkOk P T.kI .int && kkOk P T.kS .str) = true) :
  ∃ u, v = ptr u 0 ∧ UpIn q1 q2 nx L ∧ SL W g w (fzA P T u q1 q2 mb nx L hz z :: dropA (atomsO E 0 (b.heap s) ++ F) l) := by
 obtain ⟨u, P', hv, hk', hin, k1, be, se, ow, h1, h2, ap, q, s3, s4⟩ := St_fzP S h ho
 exact ⟨u, hv, hin, k1, be, se, ow, h1, h2, ap, q, fz_re hk' (kk2_ok.2 hk) s3, s4⟩
theorem SL.fzR {P : Program} {T : UTy} {u mb : Nat} {q1 q2 nx : Int} {L : List (Int × LNode)} {z : Option LNode} {hz : Hp} {l : List Atom} (hk : kk2 P T) (H : SL W g w (fzA P T u q1 q2 mb nx L hz z :: l)) : UpR P T g w u q1 q2 mb nx L ∧ ∀ m, z = some m → NodeR P T g w m ∧ NodeIn m := by
 obtain ⟨hi, H1⟩ := H.fzO
 refine ⟨H1.upR0 (keyT_int hk.1), fun m hm => ⟨?_, hi m hm⟩⟩
 subst hm
 have H2 : SL W g w (nodeA P T m :: (upA P T u q1 q2 mb nx L :: l)) := H1.weak fun _ s => s.swap
 exact nodeR_of H2
theorem St_fzR (S : Sta n W F b E g w s a) {l : Nat} {v : Value} (h : E[l]? = some v) {T : UTy} {q1 q2 nx : Int} {mb : Nat} {L : List (Int × LNode)} {z : Option LNode} {hz : Hp} (ho : b.obj s l = .ab (.fz T q1 q2 mb nx L z hz)) : ∃ P' u, v = ptr u 0 ∧ UpIn q1 q2 nx L ∧ UpR P' T g w u q1 q2 mb nx L ∧ ∀ m, z = some m → NodeR P' T g w m ∧ NodeIn m := by
 obtain ⟨u, P', hv, hk', hin, H⟩ := St_fzP S h ho
 obtain ⟨h1, h2⟩ := H.fzR hk'
 exact ⟨P', u, hv, hin, h1, h2⟩
theorem isD_xa {v : Value} {l : List XattrD} (h : Is g v l) : IsD xaTy g v (l.map xaT) := by
 rcases is_list.1 h with ⟨h1, rfl⟩ | ⟨a, cap, h1, h2, h3, h4⟩
 ·exact (@is_list xaTy.den xaTy.rep g v []).2 (.inl ⟨h1, rfl⟩)
 ·refine (@is_list xaTy.den xaTy.rep g v (l.map xaT)).2 (.inr ⟨a, cap, by rw [h1, List.length_map], by rw [List.length_map]; exact h2, h3, fun i x hx => ?_⟩)
  rw [List.getElem?_map] at hx
  obtain ⟨y, hy, rfl⟩ := Option.map_eq_some_iff.1 hx
  exact h4 i y hy
theorem node_rel {P : Program} {T : UTy} {l : Nat} {m : LNode} {x : Value} (hE : E[l]? = some x) (R : NodeR P T g w m) (I : NodeIn m) : RelCs E g (nodeCs l m) m.cells.toList := by
 have hvi : m.vi.oneCell' = true := one_mapVa R.ents
 exact ⟨_, _, rfl, ⟨rfl, rfl⟩, _, _, rfl, ⟨rfl, by show (-9223372036854775808 : Int) ≤ 0 ∧ (0 : Int) ≤ 9223372036854775807; decide⟩, _, _, rfl, ⟨rfl, I.kind⟩, _, _, rfl, ⟨rfl, I.mode⟩, _, _, rfl, ⟨rfl, I.uid⟩, _, _, rfl, ⟨rfl, I.gid⟩, _, _, rfl, (show IsD .u8 g m.vd m.data from R.data), _, _, rfl, ⟨rfl, R.target⟩, _, _, rfl, isD_xa R.xattrs, _, _, rfl, ⟨rfl, rfl⟩, _, _, rfl, ⟨⟨x, hE⟩, rfl, hvi⟩, _, _, rfl, ⟨rfl, I.up⟩, _, _, rfl, ⟨rfl, I.links⟩, rfl⟩
theorem node_ok {P : Program} {T : UTy} {m : LNode} (R : NodeR P T g w m) (I : NodeIn m) : NodeOk m := by
 obtain ⟨h1, h2, h3, h4⟩ := node_lens R
 exact ⟨I, h1, h2, h3, h4⟩
theorem up_rel {l : Nat} {x : Value} {q1 q2 nx : Int} {mb : Nat} (hE : E[l]? = some x) (h1 : inK .i64 q1) (h2 : inK .i64 q2) (h3 : inK .i64 nx) : RelCs E g (upCs l q1 q2 mb nx) [.int .i64 q1, .int .i64 q2, .map (some mb), .int .i64 nx] :=
 ⟨_, _, rfl, ⟨rfl, h1⟩, _, _, rfl, ⟨rfl, h2⟩, _, _, rfl, ⟨⟨x, hE⟩, rfl, rfl⟩, _, _, rfl, ⟨rfl, h3⟩, rfl⟩
theorem isD_xo {v : Value} {l : List xaTy.den} (h : IsD xaTy g v l) : Is g v (l.map xaO) := by
 rcases (@is_list xaTy.den xaTy.rep g v l).1 h with ⟨h1, rfl⟩ | ⟨a, cap, h1, h2, h3, h4⟩
 ·exact is_list.2 (.inl ⟨h1, rfl⟩)
 ·refine is_list.2 (.inr ⟨a, cap, by rw [h1, List.length_map], by rw [List.length_map]; exact h2, h3, fun i x hx => ?_⟩)
  rw [List.getElem?_map] at hx
  obtain ⟨y, hy, rfl⟩ := Option.map_eq_some_iff.1 hx
  exact h4 i y hy
theorem getK_cons' {κ α : Type} [MKey κ] (p : κ × α) (l : List (κ × α)) (y : κ) : getK (p :: l) y = if p.1 = y then some p.2 else getK l y := by
 unfold getK
 rw [List.find?_cons]
 by_cases h : p.1 = y
 ·simp [h]
 ·simp [h]
theorem getK_setK_or {κ α : Type} [MKey κ] {x y : κ} {u n : α} : ∀ {l : List (κ × α)}, getK (setK l x u) y = some n → n = u ∨ getK l y = some n
 | [], h => .inr h
 | p :: l, h => by
  have e : setK (p :: l) x u = (if p.1 = x then (p.1, u) else p) :: setK l x u := rfl
  rw [e, getK_cons'] at h
  rw [getK_cons']
  by_cases hp : p.1 = x
  ·rw [if_pos hp] at h
   by_cases hy : p.1 = y
   ·simp only [if_pos hy] at h
    exact .inl (Option.some.inj h).symm
   ·simp only [if_neg hy] at h ⊢
    exact getK_setK_or h
  ·rw [if_neg hp] at h
   by_cases hy : p.1 = y
   ·simp only [if_pos hy] at h ⊢
    exact .inr h
   ·simp only [if_neg hy] at h ⊢
    exact getK_setK_or h
theorem upIn_set {q1 q2 nx : Int} {L : List (Int × LNode)} (h : UpIn q1 q2 nx L) {r : Int} {m : LNode} (hm : NodeIn m) : UpIn q1 q2 nx (setK L r m) := ⟨h.q1, h.q2, h.nx, fun y n hn => by
 rcases getK_setK_or hn with rfl | hn
 ·exact hm
 ·exact h.nodes y n hn⟩
theorem St_rf (S : Sta n W F b E g w s a) {l bb : Nat} (h : E[l]? = some (ptr bb 0)) {tU tN tE : TypeId} {Y : UpY} (ho : b.obj s l = .ab (.rf tU tN tE Y)) : ∃ v1 v2, inK .i64 Y.q1 ∧ inK .i64 Y.q2 ∧ inK .i64 Y.nx ∧ v1.oneCell' = true ∧ v2.oneCell' = true ∧ Blk w bb #[.int .i64 Y.q1, .int .i64 Y.q2, v1, v2, .int .i64 Y.nx] tU := by
 have H := S.pick h
 rw [ho] at H
 have H1 : SL W g w (rfA tU tN tE Y (ptr bb 0) :: dropA (atomsO E 0 (b.heap s) ++ F) l) := H.weak fun k ⟨h1, h2, ap, q, ⟨v, s1, s3⟩, s4⟩ => by
  rw [h] at s1
  obtain rfl := Option.some.inj s1
  exact ⟨h1, h2, ap, q, s3, s4⟩
 obtain ⟨⟨b', v1, v2⟩, H2⟩ := SL.openE H1
 obtain ⟨⟨hv, h1, h2, h3⟩, H3⟩ := SL.pure H2
 obtain rfl : bb = b' := by simp [ptr] at hv; exact hv
 refine ⟨v1, v2, h1, h2, h3, ?_, ?_, H3.blk 0⟩
 ·exact @one_is _ noTy.rep _ _ _ (@SL.slIs _ noTy.rep _ _ _ _ _ _ _ 1 H3 rfl)
 ·exact @one_is _ enTy.rep _ _ _ (@SL.slIs _ enTy.rep _ _ _ _ _ _ _ 2 H3 rfl)
theorem rf_rel {Y : UpY} {v1 v2 : Value} (h1 : inK .i64 Y.q1) (h2 : inK .i64 Y.q2) (h3 : inK .i64 Y.nx) (h4 : v1.oneCell' = true) (h5 : v2.oneCell' = true) : RelCs E g (rfCs Y) [.int .i64 Y.q1, .int .i64 Y.q2, v1, v2, .int .i64 Y.nx] :=
 ⟨_, _, rfl, ⟨rfl, h1⟩, _, _, rfl, ⟨rfl, h2⟩, _, _, rfl, h4, _, _, rfl, h5, _, _, rfl, ⟨rfl, h3⟩, rfl⟩
theorem St_pw (S : Sta n W F b E g w s a) {l : Nat} {v : Value} (h : E[l]? = some v) {T : UTy} {q1 q2 nx r : Int} {mb : Nat} {L : List (Int × LNode)} {m : LNode} {e : TypeId} {xs : List UInt8} (ho : b.obj s l = .ab (.pw T q1 q2 mb nx L r m e xs)) :
  ∃ u P' m0 l1 l2, v = ptr u 0 ∧ kk2 P' T ∧ UpIn q1 q2 nx L ∧ (OutN L r m0 l1 l2 ∧ m0.blk = m.blk ∧ NodeIn m) ∧ SL W g w (slO .u8 e m.vd xs :: isA m.vx m.xattrs :: pureA (m.target.size ≤ maxLen ∧ (m.kind = 1 → ∃ b, m.vi = .map (some b))) :: Lm.blk m.blk m.cells T.N :: mapVA P' T.kS m.vi (entsV m.ents) :: restA P' T u q1 q2 mb nx L l1 l2 :: dropA (atomsO E 0 (b.heap s) ++ F) l) := by
 have H := S.pick h
 rw [ho] at H
 obtain ⟨k1, be, se, ow, h1, h2, ap, q, ⟨v', s1, u, P', rfl, hk, hin, s3⟩, s4⟩ := H
 rw [h] at s1
 obtain rfl := Option.some.inj s1
 have H1 : SL W g w (pwA P' T u q1 q2 mb nx L r m e xs :: dropA (atomsO E 0 (b.heap s) ++ F) l) := ⟨k1, be, se, ow, h1, h2, ap, q, s3, s4⟩
 obtain ⟨⟨m0, l1, l2⟩, H2⟩ := SL.openE H1
 obtain ⟨hp, H3⟩ := SL.pure H2
 exact ⟨u, P', m0, l1, l2, rfl, hk, hin, hp, H3⟩
theorem pw_rel {P' : Program} {T : UTy} {l : Nat} {x : Value} {q1 q2 nx r : Int} {mb u : Nat} {L l1 l2 : List (Int × LNode)} {m m0 : LNode} {xs : List UInt8} {e : TypeId} {R : List Atom} (hE : E[l]? = some x) (_ : UpIn q1 q2 nx L) (hm : OutN L r m0 l1 l2 ∧ m0.blk = m.blk ∧ NodeIn m)
  (H : SL W g w (slO .u8 e m.vd xs :: isA m.vx m.xattrs :: pureA (m.target.size ≤ maxLen ∧ (m.kind = 1 → ∃ b, m.vi = .map (some b))) :: Lm.blk m.blk m.cells T.N :: mapVA P' T.kS m.vi (entsV m.ents) :: restA P' T u q1 q2 mb nx L l1 l2 :: R)) : RelCs E g (nodeCw l m) m.cells.toList := by
 have I := hm.2.2
 have hvd : m.vd.oneCell' = true := @one_is _ Ty.u8.rep _ _ _ (@SL.slIs _ Ty.u8.rep _ _ _ _ _ _ _ 0 H rfl)
 have hx : Is g m.vx m.xattrs := (SL.isv (H.pick 1 rfl)).1
 have hp := (SL.pure (H.pick 2 rfl)).1
 have hvi : m.vi.oneCell' = true := one_mapVa (H.pick 4 rfl).mapVR
 exact ⟨_, _, rfl, ⟨rfl, rfl⟩, _, _, rfl, ⟨rfl, by show (-9223372036854775808 : Int) ≤ 0 ∧ (0 : Int) ≤ 9223372036854775807; decide⟩, _, _, rfl, ⟨rfl, I.kind⟩, _, _, rfl, ⟨rfl, I.mode⟩, _, _, rfl, ⟨rfl, I.uid⟩, _, _, rfl, ⟨rfl, I.gid⟩, _, _, rfl, ⟨⟨x, hE⟩, rfl, hvd⟩, _, _, rfl, ⟨rfl, hp.1⟩, _, _, rfl, isD_xa hx, _, _, rfl, ⟨rfl, rfl⟩, _, _, rfl, ⟨⟨x, hE⟩, rfl, hvi⟩, _, _, rfl, ⟨rfl, I.up⟩, _, _, rfl, ⟨rfl, I.links⟩, rfl⟩
theorem run_loadV (S : Sta n W F b E g w s a) {t : TypeId} {x : Cl} {u : Value} (rx : RelC E g x u) (h : loadV P b s t x K) : PR P (Instr.loadAt t u) w E g K := by
 unfold loadV at h
 split at h
 ·obtain ⟨bb, hE, rfl⟩ := rx
  split at h
  ·rename_i ho
   split at h
   ·rename_i r hr
    obtain ⟨us, h1, h2, _⟩ := St_cells S hE ho
    obtain ⟨v, h3, h4⟩ := load_blk h2 h1 hr
    exact ⟨v, .v r, h3, h4, h⟩
   ·exact h.elim
  ·rename_i ho
   split at h
   ·rename_i r hr
    obtain ⟨P', u, hv, hin, R⟩ := St_upR S hE ho
    obtain rfl : bb = u := by simp [ptr] at hv; exact hv
    obtain ⟨v, h3, h4⟩ := load_blk (us := [_, _, _, _]) R.ublk (up_rel hE hin.q1 hin.q2 hin.nx) hr
    exact ⟨v, .v r, h3, h4, h hin.q1 hin.q2 hin.nx⟩
   ·exact h.elim
  ·rename_i ho
   split at h
   ·rename_i r hr
    obtain ⟨P', u, hv, hin, R, _⟩ := St_fzR S hE ho
    obtain rfl : bb = u := by simp [ptr] at hv; exact hv
    obtain ⟨v, h3, h4⟩ := load_blk (us := [_, _, _, _]) R.ublk (up_rel hE hin.q1 hin.q2 hin.nx) hr
    exact ⟨v, .v r, h3, h4, h hin.q1 hin.q2 hin.nx⟩
   ·exact h.elim
  ·rename_i Y ho
   split at h
   ·rename_i r hr
    obtain ⟨v1, v2, hq1, hq2, hnx, ho1, ho2, B⟩ := St_rf S hE ho
    obtain ⟨v, h3, h4⟩ := load_blk (us := [.int .i64 Y.q1, .int .i64 Y.q2, v1, v2, .int .i64 Y.nx]) B (rf_rel hq1 hq2 hnx ho1 ho2) hr
    exact ⟨v, .v r, h3, h4, h hq1 hq2 hnx⟩
   ·exact h.elim
  ·exact h.elim
 ·obtain ⟨⟨x, hE⟩, rfl, _⟩ := rx
  split at h
  ·rename_i ho
   obtain ⟨r, m, hg, hb, h⟩ := h
   subst hb
   split at h
   ·rename_i r' hr
    obtain ⟨P', u, hv, hin, R⟩ := St_upR S hE ho
    have hn := R.nodes r m hg
    obtain ⟨v, h3, h4⟩ := load_blk (us := m.cells.toList) hn.blk (node_rel hE hn (hin.nodes r m hg)) hr
    exact ⟨v, .v r', h3, h4, h (node_ok hn (hin.nodes r m hg))⟩
   ·exact h.elim
  ·rename_i ho
   obtain ⟨m, hg, hb, h⟩ := h
   subst hb
   split at h
   ·rename_i r' hr
    obtain ⟨P', u, hv, hin, R, hz⟩ := St_fzR S hE ho
    obtain ⟨hn, hi⟩ : NodeR P' _ g w m ∧ NodeIn m := by
     rcases hg with ⟨r, hg⟩ | hg
     ·exact ⟨R.nodes r m hg, hin.nodes r m hg⟩
     ·exact hz m hg
    obtain ⟨v, h3, h4⟩ := load_blk (us := m.cells.toList) hn.blk (node_rel hE hn hi) hr
    exact ⟨v, .v r', h3, h4, h (node_ok hn hi)⟩
   ·exact h.elim
  ·rename_i m e xs ho
   obtain ⟨hb, h⟩ := h
   subst hb
   split at h
   ·rename_i r' hr
    obtain ⟨u, P', m0, l1, l2, hv, hk, hin, hm0, H⟩ := St_pw S hE ho
    have hn := pw_rel hE hin hm0 H
    obtain ⟨v, h3, h4⟩ := load_blk (us := m.cells.toList) (H.blk 3) hn hr
    exact ⟨v, .v r', h3, h4, h⟩
   ·exact h.elim
  ·exact h.elim
 ·obtain ⟨h0, v, h1, rfl⟩ := rx
  split at h
  ·rename_i r hr
   obtain ⟨cs, h2, h3⟩ := elemD h1 h0.1 h0.2.1
   obtain ⟨h4, h5⟩ := rel_cells E g _ h3
   obtain ⟨q, h6, h7⟩ := load_elem h2 S.m h4 hr
   exact ⟨q, .v r, h6, h7, h h5⟩
  ·exact h.elim
 ·obtain ⟨v, hE, rfl, _⟩ := rx
  split at h
  ·rename_i ho
   split at h
   ·rename_i hsz
    obtain ⟨h0, h1, h⟩ := h
    split at h
    ·rename_i r hr
     obtain ⟨cs, h2, h3⟩ := own_elemD (St_sl S hE ho) h0 h1
     obtain ⟨h4, h5⟩ := rel_cells E g _ h3
     obtain ⟨q, h6, h7⟩ := load_elem h2 (Mono.refl w) h4 hr
     rw [Nat.eq_of_beq_eq_true hsz] at h6
     exact ⟨q, .v r, h6, h7, h h5⟩
    ·exact h.elim
   ·exact h.elim
  ·exact h.elim
 ·exact h.elim
end
end Go.Lm

namespace Go.Lm
open Go Go.RowKit
def ER (P : Program) (o : Oper) (a : Act) (w : World) (E : Env) (g : World) (K : SV → Prop) : Prop := ∃ v sv, (execOp a.eval o).run P w = .ok (.value v) w ∧ RelV E g sv v ∧ K sv
section
variable {P : Program} {n : Nat} {W : Base} {F : List Atom} {b : Bs} {E : Env} {g w : World} {s : Ov} {a : Act} {K : SV → Prop} {o : Oper}
theorem ER.of {m : Sem Value} (h : execOp a.eval o = (do pure (.value (← m)))) (k : PR P m w E g K) : ER P o a w E g K := by
 obtain ⟨v, sv, h1, h2, h3⟩ := k
 exact ⟨v, sv, by rw [h, Sem.run_bind, h1]; rfl, h2, h3⟩
theorem len_sl {e : Ty} {v : Value} {xs : List e.den} {x : Operand} {t et : TypeId} (h : IsD e w v xs) (ho : o.op = .call { callee := .builtin .len, args := #[x], argTypes := #[t] }) (ht : P.underlying t = some (.slice et)) (hx : a.eval x = v) : (execOp a.eval o).run P w = .ok (.value (.int .i64 xs.length)) w := by
 letI := e.rep
 exact X_len (α := e.den) h ho ht hx
theorem isD_sl {e : Ty} {t : TypeId} {v : Value} {xs : List e.den} {l : List Atom} (H : SL W g w (slO e t v xs :: l)) : IsD e w v xs := by
 letI := e.rep
 exact SL.slIs0 (α := e.den) H
theorem MapVs.length {k : Kk} {e : Ty} : ∀ {l : List (k.den × Value)} {xs : List (k.den × e.den)}, MapVs g k e l xs → l.length = xs.length
 | [], _, h => by rw [show _ = [] from h]; rfl
 | _ :: _, _, ⟨x, r, q, _, h2⟩ => by rw [q, List.length_cons, List.length_cons, h2.length]
theorem St_map {P : Program} (S : Sta n W F b E g w s a) {l bb : Nat} (h : E[l]? = some (ptr bb 0)) {t : TypeId} {k : Kk} {e : Ty} {xs : List (k.den × e.den)} (ho : b.obj s l = .map t k e xs) (hk : kkOk P t k = true) :
  ∃ m, MapVs g k e m xs ∧ SL W g w (@mapA k.den k.key P t bb m :: dropA (atomsO E 0 (b.heap s) ++ F) l) := by
 have H := S.pick h
 rw [ho] at H
 obtain ⟨k1, be, se, ow, h1, h2, ap, q, ⟨b', m, s1, s2, P', hk', s3⟩, s4⟩ := H
 rw [h] at s1
 have : bb = b' := by
  have := Option.some.inj s1
  simp [ptr] at this; exact this
 subst this
 exact ⟨m, s2, k1, be, se, ow, h1, h2, ap, q, mapA_re hk' hk s3, s4⟩
theorem run_lenV (S : Sta n W F b E g w s a) {x : Operand} {t : TypeId} {c : Cl} (ho : o.op = .call { callee := .builtin .len, args := #[x], argTypes := #[t] }) (r : RelC E g c (a.eval x)) (h : lenV P b s t c K) : ER P o a w E g K := by
 have ii : ∀ {m : Nat}, m ≤ 9223372036854775807 → inK .i64 (m : Int) := fun {m} h => by
  show (-9223372036854775808 : Int) ≤ m ∧ (m : Int) ≤ 9223372036854775807
  omega
 unfold lenV at h
 split at h
 ·rename_i z ht
  obtain ⟨hx, hz⟩ := r
  exact ⟨_, _, X_len_str ho ht hx, relV_mk (ii hz), h⟩
 ·rename_i et ht
  obtain ⟨hx, _⟩ := r
  have : IsD .unit w (.slice none 0 0) [] := (@is_list Unit Ty.unit.rep w _ _).2 (.inl ⟨rfl, rfl⟩)
  exact ⟨_, _, len_sl this ho ht hx, relV_mk (ii (by simp)), h⟩
 ·rename_i kt et ht
  obtain ⟨hx, _⟩ := r
  exact ⟨_, _, X_len_nilmap ho ht hx, relV_mk (ii (m := 0) (by simp)), h⟩
 ·rename_i et e x ht
  have hl := isD_len (show IsD e g _ x from r)
  exact ⟨_, _, len_sl (IsD.mono S.m r) ho ht rfl, relV_mk (ii hl), h hl⟩
 ·rename_i et l off m ht
  obtain ⟨bb, c, hE, hc, hx⟩ := r
  obtain ⟨hm, h⟩ := h
  refine ⟨.int .i64 m, _, ?_, relV_mk (ii hm), h⟩
  simp [execOp, ho, resolve, invoke, builtin, Builtin.len_, hx, run_underlying ht, Builtin.lenOf, goInt]
 ·rename_i et l ht
  obtain ⟨hE, _⟩ := r
  split at h
  ·rename_i hob
   have hi := isD_sl (St_sl S hE hob)
   have hl := isD_len hi
   exact ⟨_, _, len_sl hi ho ht rfl, relV_mk (ii hl), h hl⟩
  ·rename_i hob
   have hi := St_held S hE hob
   have hl := isD_len hi
   exact ⟨_, _, len_sl (hi.mono S.m) ho ht rfl, relV_mk (ii hl), h hl⟩
  ·exact h.elim
 ·rename_i kt et l ht
  obtain ⟨bb, hE, hx⟩ := r
  split at h
  ·rename_i k' kk e xs hob
   obtain ⟨hk, h9⟩ := if_ok h
   rw [Bool.and_eq_true] at hk
   obtain ⟨hk1, hk2⟩ := hk
   obtain rfl := Nat.eq_of_beq_eq_true hk1
   obtain ⟨m, h1, H⟩ := St_map S hE hob hk2
   letI := kk.key
   have hl : xs.length ≤ 9223372036854775807 := by
    rw [← h1.length]; exact H.mapLen_le
   refine ⟨.int .i64 xs.length, _, ?_, relV_mk (ii hl), h9 hl⟩
   have := H.mapLen ht o.type
   rw [h1.length] at this
   simp [execOp, ho, resolve, invoke, builtin, hx, this]
  ·exact h.elim
 ·rename_i k et l v ht
  obtain ⟨⟨xv, hE⟩, hx, _⟩ := r
  split at h
  ·rename_i T q1 q2 mb nx L hob
   obtain ⟨hk, h2⟩ := if_ok h
   clear h
   have h := h2
   clear h2
   obtain ⟨u, _, hin, H⟩ := St_up S hE hob hk
   rw [Bool.and_eq_true] at hk
   have R := H.upR0 (keyT_int (kk_under hk.1))
   split at h
   ·rename_i hkI
    obtain rfl := Nat.eq_of_beq_eq_true hkI
    obtain ⟨rfl, h⟩ := h
    have hl : L.length ≤ 9223372036854775807 := by
     have := R.map.len_le
     unfold ptrsV at this
     rw [List.length_map] at this
     exact this
    exact ⟨_, _, X_len_map R.map (by unfold ptrsV; rw [List.length_map]) ho ht hx, relV_mk (ii hl), h hl⟩
   ·obtain ⟨hkS, h2⟩ := if_ok h
    clear h
    obtain ⟨r, m, hg, rfl, h⟩ := h2
    obtain rfl := Nat.eq_of_beq_eq_true hkS
    have hn := R.nodes r m hg
    have hok := node_ok hn (hin.nodes r m hg)
    exact ⟨_, _, X_len_map hn.ents (by unfold entsV; rw [List.length_map]) ho ht hx, relV_mk (ii hok.ents), h hok⟩
  ·exact h.elim
 ·exact h.elim
theorem run_addrF {t : TypeId} {x : Operand} {j : Nat} {c c' : Cl} {f : Field} {ie : TypeInfo} (ho : o.op = .fieldAddr t x j) (r : RelC E g c (a.eval x)) (hf : fieldOf P t j = some f) (hi : P.info? f.type = some ie) (hs : Nat.blt 0 ie.size = true) (hc : addrF c f.offset = some c')
  : ∃ v, (execOp a.eval o).run P w = .ok (.value v) w ∧ RelC E g c' v := by
 have hpos : ¬ ie.size = 0 := by
  have : 0 < ie.size := by simpa using hs
  omega
 unfold fieldOf at hf
 split at hf
 ·rename_i fs ht
  have key : ∀ q : Addr, a.eval x = .pointer (some q) → (execOp a.eval o).run P w = .ok (.value (.pointer (some (q.add f.offset)))) w := fun q hq => by
   simp [execOp, ho, hq, Instr.fieldAt, Instr.sureAddr, run_underlying ht, hf, fieldPlace, sizeOf, typeInfo, hi, hpos]
  unfold addrF at hc
  split at hc
  ·obtain rfl := Option.some.inj hc
   obtain ⟨bb, hE, hx⟩ := r
   refine ⟨_, key _ hx, bb, hE, ?_⟩
   unfold Addr.add
   split
   ·rename_i h0; simp [h0]
   ·rfl
  ·split at hc
   ·rename_i hle
    obtain rfl := Option.some.inj hc
    obtain ⟨h0, v, h1, hx⟩ := r
    obtain ⟨cs, h3, _⟩ := elemD h1 h0.1 h0.2.1
    obtain ⟨q, hq, _⟩ := h3 g (Mono.refl g)
    rw [hq] at hx
    refine ⟨_, key _ hx, ⟨h0.1, h0.2.1, Nat.le_of_ble_eq_true hle⟩, v, h1, ?_⟩
    rw [hq]
    simp [addP, Go.Deep.add_add]
   ·cases hc
  ·obtain rfl := Option.some.inj hc
   obtain ⟨v, hE, hx, q, hq⟩ := r
   refine ⟨_, key _ hq, v, hE, ?_, _, rfl⟩
   rw [← addP_add, ← hx, hq]; rfl
  ·obtain rfl := Option.some.inj hc
   obtain ⟨hE, hx, _⟩ := r
   refine ⟨_, key _ hx, hE, ?_, rfl⟩
   unfold Addr.add
   split
   ·rename_i h0; simp [h0]
   ·rfl
  ·cases hc
 ·cases hf
theorem run_idx {x i : Operand} {t et : TypeId} {e : Ty} {v : Value} {xs : List e.den} {k : Int} {ie : TypeInfo} (h : IsD e w v xs) (h0 : 0 ≤ k) (h1 : k < xs.length) (ho : o.op = .indexAddr t x i) (ht : P.underlying t = some (.slice et)) (hi : P.info? et = some ie) (hs : Nat.beq e.size ie.size = true)
  (hx : a.eval x = v) (hk : a.eval i = .int .i64 k) : (execOp a.eval o).run P w = .ok (.value (elemP e.size v k)) w := by
 letI := e.rep
 have hsz : GoRep.size e.den = e.size := Ty.rep_size e
 have := X_indexAddr (α := e.den) (P := P) (o := o) (ρ := a.eval) h h0 h1 ho ht (by rw [hi, hsz]; exact congrArg some (Nat.eq_of_beq_eq_true hs).symm) hx hk
 rw [hsz] at this; exact this
theorem elemP_ptr {e : Ty} {v : Value} {xs : List e.den} {k : Int} (h : IsD e w v xs) (h0 : 0 ≤ k) (h1 : k < xs.length) : addP (elemP e.size v k) 0 = elemP e.size v k ∧ ∃ q, elemP e.size v k = .pointer (some q) := by
 obtain ⟨cs, h3, _⟩ := elemD h h0 h1
 obtain ⟨q, hq, _⟩ := h3 w (Mono.refl w)
 rw [hq]
 exact ⟨by simp [addP, Addr.add], _, rfl⟩
theorem run_indexAddrV (S : Sta n W F b E g w s a) {x i : Operand} {t : TypeId} {c : Cl} {k : Int} (ho : o.op = .indexAddr t x i) (r : RelC E g c (a.eval x)) (hk : a.eval i = .int .i64 k) (h : indexAddrV P b s t c k K) : ER P o a w E g K := by
 unfold indexAddrV at h
 split at h
 ·rename_i m et ht
  split at h
  ·rename_i ie l off hie
   obtain ⟨h0, h1, h⟩ := h
   obtain ⟨bb, hE, hx⟩ := r
   refine ⟨.pointer (some ((⟨bb, off, none⟩ : Addr).add (k.toNat * ie.size))), .c (.p l (off + k.toNat * ie.size)), ?_, ⟨bb, hE, ?_⟩, h⟩
   ·simp [execOp, ho, hx, hk, Instr.indexAt, asIntOf, Instr.sureAddr, run_underlying ht, h0, h1, sizeOf, typeInfo, hie]
   ·unfold Addr.add
    split
    ·rename_i hz; simp [hz]
    ·rfl
  ·exact h.elim
 ·rename_i et ht
  split at h
  ·exact h.elim
  ·rename_i ie hie
   split at h
   ·rename_i e xs
    split at h
    ·rename_i hs
     obtain ⟨h0, h1, h⟩ := h
     have r' : IsD e g (a.eval x) xs := r
     exact ⟨_, .c (.de e xs k 0), run_idx (r'.mono S.m) h0 h1 ho ht hie hs rfl hk, (show RelC E g (.de e xs k 0) _ from ⟨⟨h0, h1, Nat.zero_le _⟩, _, r', (elemP_ptr r' h0 h1).1.symm⟩), h⟩
    ·exact h.elim
   ·rename_i l off m
    obtain ⟨bb, c, hE, hc, hx⟩ := r
    obtain ⟨h0, h1, h⟩ := h
    refine ⟨.pointer (some ((⟨bb, off, none⟩ : Addr).add (k.toNat * ie.size))), .c (.p l (off + k.toNat * ie.size)), ?_, ⟨bb, hE, ?_⟩, h⟩
    ·simp [execOp, ho, hx, hk, Instr.indexAt, asIntOf, run_underlying ht, h0, h1, sizeOf, typeInfo, hie]
    ·unfold Addr.add
     split
     ·rename_i hz; simp [hz]
     ·rfl
   ·obtain ⟨hE, _⟩ := r
    split at h
    ·rename_i hob
     split at h
     ·rename_i hs
      obtain ⟨h0, h1, h⟩ := h
      have hi := isD_sl (St_sl S hE hob)
      obtain ⟨q1, q2⟩ := elemP_ptr hi h0 h1
      exact ⟨_, .c (.oe _ _ k 0), run_idx hi h0 h1 ho ht hie hs rfl hk, (show RelC E g (.oe _ _ k 0) _ from ⟨_, hE, q1.symm, q2⟩), h⟩
     ·exact h.elim
    ·rename_i hob
     split at h
     ·rename_i hs
      obtain ⟨h0, h1, h⟩ := h
      have hi := St_held S hE hob
      exact ⟨_, .c (.de _ _ k 0), run_idx (hi.mono S.m) h0 h1 ho ht hie hs rfl hk, (show RelC E g (.de _ _ k 0) _ from ⟨⟨h0, h1, Nat.zero_le _⟩, _, hi, (elemP_ptr hi h0 h1).1.symm⟩), h⟩
     ·exact h.elim
    ·exact h.elim
   ·exact h.elim
 ·exact h.elim
theorem run_part {f : Field} {us : List Value} {cs : List Cl} {r : S1} (hc : RelCs E g cs us) (hp : part1 P f.type cs f.offset = some r) : ∃ u, (part f.type us.toArray f.offset).run P w = .ok u w ∧ RelS E g r u := by
 unfold part1 at hp
 split at hp
 ·cases hp
 ·rename_i d hd
  split at hp
  ·rename_i hr
   split at hp
   ·rename_i ie hie
    split at hp
    ·rename_i hle
     obtain rfl := Option.some.inj hp
     refine ⟨.agg ((us.drop f.offset).take ie.size).toArray, ?_, _, (hc.drop _).take _, rfl⟩
     have hagg : (isAgg f.type).run P w = .ok true w := by
      unfold isAgg
      rw [Sem.run_bind, run_underlying hd w]
      cases d <;> simp_all
     have : (us.toArray.extract f.offset (f.offset + ie.size)) = ((us.drop f.offset).take ie.size).toArray := by rw [List.extract_toArray, List.extract_eq_take_drop, Nat.add_sub_cancel_left]
     unfold part
     rw [Sem.run_bind, hagg]
     simp only [Result.andThen_ok, if_true]
     simp [sizeOf, typeInfo, hie, go_sem]
    ·cases hp
   ·cases hp
  ·rename_i hr
   split at hp
   ·rename_i c hcc
    obtain rfl := Option.some.inj hp
    obtain ⟨u, h1, h2⟩ := hc.get hcc
    refine ⟨u, ?_, h2⟩
    have hagg : (isAgg f.type).run P w = .ok false w := by
     unfold isAgg
     rw [Sem.run_bind, run_underlying hd w]
     cases d <;> simp_all
    have h1' : us.toArray[f.offset]? = some u := by simpa using h1
    unfold part
    rw [Sem.run_bind, hagg]
    simp [h1', go_sem]
   ·cases hp
theorem run_field {t : TypeId} {x : Operand} {j : Nat} {cs : List Cl} {f : Field} {r : S1} (ho : o.op = .field t x j) (hx : RelV E g (.v (.agg cs)) (a.eval x)) (hf : fieldOf P t j = some f) (hp : part1 P f.type cs f.offset = some r) (h : K (.v r)) : ER P o a w E g K := by
 obtain ⟨us, hc, hx⟩ := hx
 obtain ⟨u, h1, h2⟩ := run_part (w := w) hc hp
 unfold fieldOf at hf
 split at hf
 ·rename_i fs ht
  refine ⟨u, .v r, ?_, h2, h⟩
  simp [execOp, ho, hx, Instr.field, run_underlying ht, hf, asAgg, h1]
 ·cases hf
theorem slice_isD {e : Ty} {v : Value} {xs : List e.den} {l h : Int} (hx : IsD e w v xs) (hl : 0 ≤ l) (hlh : l ≤ h) (hh : h ≤ xs.length) : IsD e w (sliceV e.size v l h) ((xs.drop l.toNat).take (h.toNat - l.toNat)) := by
 letI := e.rep
 have hsz : GoRep.size e.den = e.size := Ty.rep_size e
 have := Is.slice (α := e.den) hx hl hlh hh
 rw [hsz] at this; exact this
theorem slice_run {e : Ty} {x : Operand} {lo hi : Option Operand} {t et : TypeId} {v : Value} {xs : List e.den} {l h : Int} {ie : TypeInfo} (hx' : IsD e w v xs) (hl : 0 ≤ l) (hlh : l ≤ h) (hh : h ≤ xs.length) (ho : o.op = .slice t x lo hi none)
  (ht : P.underlying t = some (.slice et)) (hi' : P.info? et = some ie) (hs : Nat.beq e.size ie.size = true) (hx : a.eval x = v) (h1 : (lo = none ∧ l = 0) ∨ ∃ y, lo = some y ∧ a.eval y = .int .i64 l) (h2 : (hi = none ∧ h = xs.length) ∨ ∃ y, hi = some y ∧ a.eval y = .int .i64 h) :
  (execOp a.eval o).run P w = .ok (.value (sliceV e.size v l h)) w := by
 letI := e.rep
 have hsz : GoRep.size e.den = e.size := Ty.rep_size e
 have := X_slice (α := e.den) (P := P) (ρ := a.eval) hx' hl hlh hh ho ht (by rw [hi', hsz]; exact congrArg some (Nat.eq_of_beq_eq_true hs).symm) hx h1 h2
 rw [hsz] at this; exact this
def BoundIs (a : Act) (q : Option Operand) (l : Option Int) : Prop := (q = none ∧ l = none) ∨ ∃ y n, q = some y ∧ l = some n ∧ a.eval y = .int .i64 n
theorem BoundIs.get {q : Option Operand} {l : Option Int} {m : Int} (h : BoundIs a q l) : (q = none ∧ boundV l m = m) ∨ ∃ y, q = some y ∧ a.eval y = .int .i64 (boundV l m) := by
 rcases h with ⟨rfl, rfl⟩ | ⟨y, n, rfl, rfl, h⟩
 ·exact .inl ⟨rfl, rfl⟩
 ·exact .inr ⟨y, rfl, h⟩
theorem run_sliceK (S : Sta n W F b E g w s a) {x : Operand} {t : TypeId} {c : Cl} {qlo qhi : Option Operand} {lo hi : Option Int} (ho : o.op = .slice t x qlo qhi none) (r : RelC E g c (a.eval x)) (h1 : BoundIs a qlo lo) (h2 : BoundIs a qhi hi) (h : sliceK P b s t c lo hi K) : ER P o a w E g K := by
 unfold sliceK at h
 split at h
 ·rename_i ht
  split at h
  ·rename_i z
   obtain ⟨hl, hlh, hh, h⟩ := h
   obtain ⟨hx, hz⟩ := r
   refine ⟨_, .str _, X_slice_str hl hlh hh ho ht hx h1.get h2.get, ⟨rfl, ?_⟩, h⟩
   have hz' : z.size ≤ maxLen := hz
   show (z.extract _ _).size ≤ maxLen
   rw [ByteArray.size_extract]; omega
  ·exact h.elim
 ·rename_i et ht
  split at h
  ·exact h.elim
  ·rename_i ie hie
   split at h
   ·rename_i e xs
    split at h
    ·rename_i hs
     obtain ⟨hl, hlh, hh, h⟩ := h
     have r' : IsD e g (a.eval x) xs := r
     exact ⟨_, .c (.d e _), slice_run (r'.mono S.m) hl hlh hh ho ht hie hs rfl h1.get h2.get, slice_isD r' hl hlh hh, h⟩
    ·exact h.elim
   ·obtain ⟨hE, _⟩ := r
    split at h
    ·rename_i hob
     split at h
     ·rename_i hs
      obtain ⟨hl, hlh, hh, h⟩ := h
      have hi := isD_sl (St_sl S hE hob)
      obtain ⟨q, m, cc, hq, _⟩ := isD_slice (slice_isD hi hl hlh hh)
      exact ⟨_, .c (.os _ _ _ _), slice_run hi hl hlh hh ho ht hie hs rfl h1.get h2.get, (show RelC E g (.os _ _ _ _) _ from ⟨_, hE, rfl, q, m, cc, hq⟩), h⟩
     ·exact h.elim
    ·rename_i hob
     split at h
     ·rename_i hs
      obtain ⟨hl, hlh, hh, h⟩ := h
      have hi := St_held S hE hob
      exact ⟨_, .c (.d _ _), slice_run (hi.mono S.m) hl hlh hh ho ht hie hs rfl h1.get h2.get, slice_isD hi hl hlh hh, h⟩
     ·exact h.elim
    ·exact h.elim
   ·obtain ⟨⟨xv, hE⟩, hx, _⟩ := r
    split at h
    ·rename_i hob
     split at h
     ·rename_i hs
      obtain ⟨rfl, hl, hlh, hh, h⟩ := h
      obtain ⟨u, P', m0, l1, l2, hv, hk, hin, hm0, H⟩ := St_pw S hE hob
      have hi := isD_sl H
      obtain ⟨q, m, cc, hq, _⟩ := isD_slice (slice_isD hi hl hlh hh)
      exact ⟨_, .c (.kl _ _), slice_run (e := .u8) hi hl hlh hh ho ht hie hs hx h1.get h2.get, (show RelC E g (.kl _ _) _ from ⟨⟨xv, hE⟩, rfl, by rw [hq]; rfl⟩), h⟩
     ·exact h.elim
    ·exact h.elim
   ·exact h.elim
 ·rename_i m et ht
  split at h
  ·exact h.elim
  ·rename_i ie hie
   split at h
   ·rename_i l off
    obtain ⟨hmx, hl, hlm, hlh, hh, h⟩ := h
    obtain ⟨bb, hE, hx⟩ := r
    have hb : (Instr.sliceBounds false m m (qlo.map a.eval) (qhi.map a.eval) none).run P w = .ok ((boundV lo 0).toNat, (boundV hi m).toNat, m) w := by
     have g1 := h1.get (m := 0)
     have g2 := h2.get (m := (m : Int))
     have e0 : 0 ≤ boundV hi m := by omega
     rcases g1 with ⟨rfl, e1⟩ | ⟨y, rfl, hy⟩ <;> rcases g2 with ⟨rfl, e2⟩ | ⟨z, rfl, hz⟩ <;>
      simp_all [Instr.sliceBounds, Instr.sliceBound, asIntOf] <;> omega
    have hne : ¬ m = (boundV lo 0).toNat := by omega
    refine ⟨.slice (some ((⟨bb, off, none⟩ : Addr).add ((boundV lo 0).toNat * ie.size))) ((boundV hi m).toNat - (boundV lo 0).toNat) (m - (boundV lo 0).toNat), .c (.sc l _ _), ?_, ⟨bb, m - (boundV lo 0).toNat, hE, ⟨by omega, by unfold maxLen; omega⟩, ?_⟩, h⟩
    ·simp [execOp, ho, hx, Instr.sliceAt, Instr.sureAddr, run_underlying ht, hb, sizeOf, typeInfo, hie, hne]
    ·congr 2
     unfold Addr.add
     split
     ·rename_i hz; simp [hz]
     ·rfl
   ·exact h.elim
 ·exact h.elim
theorem run_index {x i : Operand} {t : TypeId} {z : ByteArray} {k : IntKind} {m : Int} (ho : o.op = .index t x i) (ht : P.underlying t = some .string) (hx : a.eval x = .string z) (hi : a.eval i = .int k m) (h0 : 0 ≤ m) (h1 : m < z.size) (h : K (.k (.int .u8 ((byteAt z m).toNat : Int)))) : ER P o a w E g K := by
 have hlt : m.toNat < z.size := by omega
 have hb : z[m.toNat]? = some z[m.toNat] := by simp [hlt]
 refine ⟨.int .u8 (byteAt z m).toNat, _, ?_, relV_mk ?_, h⟩
 ·simp [execOp, ho, Instr.index, hx, hi, asIntOf, run_underlying ht, h0, byteAt, hb]
 ·have h2 : (byteAt z m).toNat < 256 := UInt8.toNat_lt _
  show (0 : Int) ≤ ((byteAt z m).toNat : Int) ∧ ((byteAt z m).toNat : Int) ≤ 255
  omega
theorem setCs_rel {l : List Cl} {vs : List Value} {cs : List Cl} {us : List Value} {off : Nat} (hc : RelCs E g cs us) (hv : RelCs E g l vs) : RelCs E g (setCs cs off l) (us.take off ++ (vs ++ us.drop (off + vs.length))) := by
 unfold setCs
 rw [hv.length]
 exact (hc.take off).app (hv.app (hc.drop _))
end
end Go.Lm

namespace Go.Lm
open Go Go.RowKit
section
variable {X : Vx} {n : Nat} {W : Base} {F : List Atom} {b : Bs} {E : Env} {g w : World} {s : Ov} {a : Act} {o : Oper}
theorem nodeSet_ok {P' : Program} {T : UTy} {m : LNode} {off : Nat} {v : S1} {us : List Value} {K : LNode → Prop} (hc : RelCs E g v.cells us) (R : NodeR P' T g w m) (I : NodeIn m) (h : nodeSet m off v K) :
  ∃ m', K m' ∧ m'.blk = m.blk ∧ m'.kind = m.kind ∧ m'.vi = m.vi ∧ m'.ents = m.ents ∧ Is g m'.vd m'.data ∧ Is g m'.vx m'.xattrs ∧ m'.target.size ≤ maxLen ∧ NodeIn m' ∧ off + us.length ≤ 13 ∧ m'.cells.toList = m.cells.toList.take off ++ us ++ m.cells.toList.drop (off + us.length) := by
 unfold nodeSet at h
 split at h
 ·obtain ⟨_, _, rfl, ⟨rfl, h1⟩, _, _, rfl, ⟨rfl, h2⟩, _, _, rfl, ⟨rfl, h3⟩, rfl⟩ := hc
  exact ⟨_, h, rfl, rfl, rfl, rfl, R.data, R.xattrs, R.target, ⟨I.kind, h1, h2, h3, I.up, I.links, I.ents⟩, by simp, rfl⟩
 ·split at h
  ·rename_i hq
   obtain ⟨q, hq⟩ := asD_some hq
   subst q
   subst hq
   obtain ⟨u, _, rfl, h1, rfl⟩ := hc
   exact ⟨_, h u, rfl, rfl, rfl, rfl, (show IsD .u8 g u _ from h1), R.xattrs, R.target, ⟨I.kind, I.mode, I.uid, I.gid, I.up, I.links, I.ents⟩, by simp, rfl⟩
  ·exact h.elim
 ·split at h
  ·rename_i hq
   obtain ⟨q, hq⟩ := asD_some hq
   subst q
   subst hq
   obtain ⟨u, _, rfl, h1, rfl⟩ := hc
   exact ⟨_, h u, rfl, rfl, rfl, rfl, R.data, isD_xo h1, R.target, ⟨I.kind, I.mode, I.uid, I.gid, I.up, I.links, I.ents⟩, by simp, rfl⟩
  ·exact h.elim
 ·obtain ⟨_, _, rfl, ⟨rfl, _⟩, rfl⟩ := hc
  exact ⟨_, h, rfl, rfl, rfl, rfl, R.data, R.xattrs, R.target, ⟨I.kind, I.mode, I.uid, I.gid, I.up, I.links, I.ents⟩, by simp, rfl⟩
 ·obtain ⟨_, _, rfl, ⟨rfl, h1⟩, rfl⟩ := hc
  exact ⟨_, h, rfl, rfl, rfl, rfl, R.data, R.xattrs, R.target, ⟨I.kind, I.mode, I.uid, I.gid, h1, I.links, I.ents⟩, by simp, rfl⟩
 ·obtain ⟨_, _, rfl, ⟨rfl, h1⟩, rfl⟩ := hc
  exact ⟨_, h, rfl, rfl, rfl, rfl, R.data, R.xattrs, R.target, ⟨I.kind, I.mode, I.uid, I.gid, I.up, h1, I.ents⟩, by simp, rfl⟩
 ·exact h.elim
theorem up_back {P : Program} {T : UTy} {u mb : Nat} {q1 q2 nx : Int} {L : List (Int × LNode)} {R : List Atom} {w' : World} {l : Nat} (hE : E[l]? = some (ptr u 0)) (hk : (kkOk P T.kI .int && kkOk P T.kS .str) = true) (hin : UpIn q1 q2 nx L) (H : SL W g w' (upA P T u q1 q2 mb nx L :: R)) : SL W g w' (atomO E l (.up T q1 q2 mb nx L) :: R) :=
 H.weak fun _ ⟨k1, k2, ap, q, s1, s2⟩ => ⟨k1, k2, ap, q, ⟨u, P, hE, hk, hin, s1⟩, s2⟩
theorem run_nodeStore (S : Sta n W F b E g w s a) {t : TypeId} {x y : Operand} {l bb off : Nat} {v : S1} {K : Ov → Prop} (ho : o.op = .store t x y) (r : RelC E g (.kl l (.pointer (some ⟨bb, off, none⟩))) (a.eval x)) (hv : RelCs E g v.cells (a.eval y).cells.toList) (h : nodeStoreV X.P b s t l bb off v K) :
  ∃ w' s', (execOp a.eval o).run X.P w = .ok .skip w' ∧ Sta n W F b E g w' s' a ∧ K s' := by
 have hone : (a.eval y).cells.toList.all (·.oneCell') = true := List.all_eq_true.2 hv.one
 obtain ⟨⟨xv, hE⟩, hx, _⟩ := r
 unfold nodeStoreV at h
 split at h
 ·exact h.elim
 ·rename_i ie hie
  obtain ⟨hsz, h⟩ := if_ok h
  split at h
  ·rename_i T q1 q2 mb nx L hob
   obtain ⟨hk, r, m, hg, hb, h3⟩ := if_ok h
   subst hb
   obtain ⟨u, rfl, hin, H⟩ := St_up S hE hob hk
   have hk' := hk
   rw [Bool.and_eq_true] at hk'
   have KI := keyT_int (kk_under hk'.1)
   have R := (H.upR0 KI).nodes r m hg
   obtain ⟨m', hK, e1, e2, e3, e4, i1, i2, i3, i4, hle, hcs⟩ := nodeSet_ok hv R (hin.nodes r m hg) h3
   have hlen : (a.eval y).cells.size = ie.size := by
    have := hv.length
    rw [Array.length_toList] at this
    rw [this]; exact Nat.eq_of_beq_eq_true hsz
   rw [Array.length_toList] at hle hcs
   have hr := run_store_row (P := X.P) (t := t) (off := off) R.blk (by rw [hie, hlen]; rfl) hone (show off + (a.eval y).cells.size ≤ m.cells.size from hle)
   refine ⟨_, _, by simp [execOp, ho, hx]; rw [hr]; rfl, S.back hE _ (Mono.refl g) (up_back hE hk (upIn_set hin i4) ?_), hK⟩
   refine H.upStore KI hg i1 i2 i3 e1 e2 e3 e4 ⟨?_, R.blk.lt⟩
   rw [← hcs]
  ·exact h.elim
theorem run_nextStore (S : Sta n W F b E g w s a) {t : TypeId} {x y : Operand} {l off : Nat} {v : S1} {K : Ov → Prop} (ho : o.op = .store t x y) (r : RelC E g (.p l off) (a.eval x)) (rv : RelV E g (.v v) (a.eval y)) (h : nextStoreV X.P b s t l off v K) :
  ∃ w' s', (execOp a.eval o).run X.P w = .ok .skip w' ∧ Sta n W F b E g w' s' a ∧ K s' := by
 have hv : RelCs E g v.cells (a.eval y).cells.toList := RelS.cells rv
 have hone : (a.eval y).cells.toList.all (·.oneCell') = true := List.all_eq_true.2 hv.one
 unfold nextStoreV at h
 split at h
 ·exact h.elim
 ·rename_i ie hie
  obtain ⟨hsz, h⟩ := if_ok h
  have hlen : (a.eval y).cells.size = ie.size := by
   have := hv.length
   rw [Array.length_toList] at this
   rw [this]; exact Nat.eq_of_beq_eq_true hsz
  split at h
  ·rename_i T q1 q2 mb nx L z hob _
   obtain ⟨hk, h3⟩ := if_ok h
   obtain ⟨bb, hE, hx⟩ := r
   obtain ⟨u, hu, hin, H⟩ := St_up S hE hob hk
   obtain rfl : bb = u := by simp [ptr] at hu; exact hu
   obtain ⟨hy, hz⟩ := (show RelC E g (.k (.int .i64 z)) (a.eval y) from rv)
   have B := H.upO.blk 0
   have hc1 : (a.eval y).cells = #[.int .i64 z] := by rw [hy]; rfl
   have hr := run_store_row (P := X.P) (t := t) (off := 3) B (by rw [hie, hlen]; rfl) hone (by rw [hc1]; simp)
   refine ⟨_, _, by simp [execOp, ho, hx]; rw [hr]; rfl, S.back hE _ (Mono.refl g) (up_back hE hk ⟨hin.q1, hin.q2, hz, hin.nodes⟩ ?_), h3⟩
   refine SL.upI (H.upO.upd 0 (cs := #[.int .i64 q1, .int .i64 q2, .map (some mb), .int .i64 z]) ⟨?_, B.lt⟩)
   rw [hc1]; rfl
  ·exact h.elim
theorem take_mid {α : Type} {L vs : List α} {p m : Nat} (h1 : p + vs.length ≤ m) (h2 : m ≤ L.length) : (L.take p ++ vs ++ L.drop (p + vs.length)).take m = (L.take m).take p ++ vs ++ (L.take m).drop (p + vs.length) := by
 have e1 : (L.take p).length = p := by rw [List.length_take]; omega
 rw [List.take_append, List.take_of_length_le (by rw [List.length_append, e1]; omega), List.length_append, e1, List.take_take, Nat.min_eq_left (by omega), List.drop_take]
theorem flatten_setN {size : Nat} {vs : List Value} : ∀ (cs : List (List Value)) (i off : Nat), (∀ x ∈ cs, x.length = size) → off + vs.length ≤ size → ∀ (hi : i < cs.length), (cs.set i ((cs[i]).take off ++ vs ++ (cs[i]).drop (off + vs.length))).flatten = cs.flatten.take (i * size + off) ++ vs ++ cs.flatten.drop (i * size + off + vs.length)
 | [], _, _, _, _, hi => by simp at hi
 | c :: cs, 0, off, hl, ho, _ => by
  have h1 : c.length = size := hl c (by simp)
  simp only [List.set_cons_zero, List.flatten_cons, List.getElem_cons_zero, Nat.zero_mul, Nat.zero_add]
  rw [List.take_append_of_le_length (by omega), List.drop_append_of_le_length (by omega)]
  simp
 | c :: cs, i + 1, off, hl, ho, hi => by
  have h1 : c.length = size := hl c (by simp)
  have ih := flatten_setN cs i off (fun x hx => hl x (List.mem_cons_of_mem _ hx)) ho (by simpa using hi)
  simp only [List.set_cons_succ, List.flatten_cons, List.getElem_cons_succ]
  rw [ih]
  have e1 : (i + 1) * size + off = c.length + (i * size + off) := by rw [Nat.add_mul]; omega
  rw [e1, List.take_length_add_append, show c.length + (i * size + off) + vs.length = c.length + (i * size + off + vs.length) by omega, List.drop_length_add_append]
  simp
theorem SL.slSetN {α : Type} [GoRep α] {P : Program} {e t : TypeId} {v c : Value} {xs : List α} {i : Int} {off : Nat} {x' : α} {l : List Atom} (H : SL W g w (slA e v xs :: l)) (h0 : 0 ≤ i) (h1 : i < xs.length) (hoff : off + c.cells.size ≤ GoRep.size α) (hone : c.cells.toList.all (·.oneCell') = true) (hst : (P.info? t).map (·.size) = some c.cells.size)
  (hx : ∀ cs, GoRep.rel g cs (xs[i.toNat]'(by omega)) → GoRep.rel g (cs.take off ++ c.cells.toList ++ cs.drop (off + c.cells.toList.length)) x') :
  ∃ w', (Instr.storeAt t (addP (elemP (GoRep.size α) v i) off) c).run P w = .ok () w' ∧ SL W g w' (slA e v (xs.set i.toNat x') :: l) := by
 obtain ⟨cs, r, H1⟩ := H.slO
 have hlen := RelL.length r
 rcases H1.ofRow with ⟨rfl, hn, _, _⟩ | ⟨k, cap, cur, rfl, q1, q2, q3, q4, H2⟩
 ·omega
 have hi : i.toNat < xs.length := by omega
 have hic : i.toNat < cs.length := by omega
 have hcur : i.toNat * GoRep.size α + off + c.cells.size ≤ xs.length * GoRep.size α := by
  have : (i.toNat + 1) * GoRep.size α ≤ xs.length * GoRep.size α := Nat.mul_le_mul_right _ hi
  rw [Nat.add_mul] at this; omega
 have hcap : xs.length * GoRep.size α ≤ cap * GoRep.size α := Nat.mul_le_mul_right _ q1
 have hrun := run_store_row (P := P) (t := t) (off := i.toNat * GoRep.size α + off) (v := c) (H2.blk 0) hst hone (by omega)
 refine ⟨w.setRow k (cur.toList.take (i.toNat * GoRep.size α + off) ++ c.cells.toList ++ cur.toList.drop (i.toNat * GoRep.size α + off + c.cells.size)).toArray, ?_, ?_⟩
 ·have hp : addP (elemP (GoRep.size α) (.slice (some ⟨k, 0, none⟩) xs.length cap) i) off = ptr k (i.toNat * GoRep.size α + off) := by
   show Value.pointer (some (((⟨k, 0, none⟩ : Addr).add (i.toNat * GoRep.size α)).add off)) = _
   rw [Go.Deep.add_add, Addr.add_mid, Nat.zero_add]
  rw [hp]; exact hrun
 ·have hsz : c.cells.size = c.cells.toList.length := by simp
  have u : Upd w k (cur.toList.take (i.toNat * GoRep.size α + off) ++ c.cells.toList ++ cur.toList.drop (i.toNat * GoRep.size α + off + c.cells.size)).toArray (w.setRow k (cur.toList.take (i.toNat * GoRep.size α + off) ++ c.cells.toList ++ cur.toList.drop (i.toNat * GoRep.size α + off + c.cells.size)).toArray) := ⟨rfl, (H2.blk 0).lt⟩
  have H3 := H2.upd 0 u
  have H4 := SL.toRow (size := GoRep.size α) (cap := cap) xs.length H3 q1 q2 (by simp; omega)
  have e2 : ((cur.toList.take (i.toNat * GoRep.size α + off) ++ c.cells.toList ++ cur.toList.drop (i.toNat * GoRep.size α + off + c.cells.size)).toArray.toList.take (xs.length * GoRep.size α)) = (cs.set i.toNat ((cs[i.toNat]).take off ++ c.cells.toList ++ (cs[i.toNat]).drop (off + c.cells.toList.length))).flatten := by
   rw [flatten_setN (size := GoRep.size α) cs i.toNat off (fun x hx => RelL.lens r x hx) (by rw [← hsz]; exact hoff) hic, ← q4, hsz, List.toList_toArray]
   have hcl : cur.toList.length = cap * GoRep.size α := by simpa using q3
   exact take_mid (by omega) (by omega)
  rw [e2] at H4
  have hlx : (xs.set i.toNat x').length = xs.length := by simp
  refine SL.slI (cs := cs.set i.toNat ((cs[i.toNat]).take off ++ c.cells.toList ++ (cs[i.toNat]).drop (off + c.cells.toList.length))) (r.set i.toNat _ (hx _ (r.at i.toNat hi hic))) ?_
  rw [hlx]; exact H4
theorem run_storeV (S : Sta n W F b E g w s a) {t : TypeId} {x y : Operand} {c : Cl} {v : S1} {K : Ov → Prop} (ho : o.op = .store t x y) (r : RelC E g c (a.eval x)) (rv : RelV E g (.v v) (a.eval y)) (h : storeV X.P b s t c v K) :
  ∃ w' s', (execOp a.eval o).run X.P w = .ok .skip w' ∧ Sta n W F b E g w' s' a ∧ K s' := by
 have hv : RelCs E g v.cells (a.eval y).cells.toList := RelS.cells rv
 have hone : (a.eval y).cells.toList.all (·.oneCell') = true := List.all_eq_true.2 hv.one
 unfold storeV at h
 split at h
 ·exact h.elim
 ·rename_i ie hie
  split at h
  ·rename_i hsz
   have hlen : (a.eval y).cells.size = ie.size := by
    have := hv.length
    rw [Array.length_toList] at this
    rw [this]; exact Nat.eq_of_beq_eq_true hsz
   split at h
   ·rename_i l off
    obtain ⟨bb, hE, hx⟩ := r
    split at h
    ·rename_i ut cs hob
     split at h
     ·rename_i hle
      obtain ⟨us, h1, h2, H⟩ := St_cells S hE hob
      have hl : off + (a.eval y).cells.size ≤ us.toArray.size := by
       rw [hlen, List.size_toArray, h1.length]; exact Nat.le_of_ble_eq_true hle
      have hr := run_store_row (P := X.P) (t := t) h2 (by rw [hie, hlen]; rfl) hone hl
      refine ⟨_, _, by simp [execOp, ho, hx]; rw [hr]; rfl, S.back hE _ (Mono.refl g) ?_, h⟩
      have H2 := SL.updO0 H ((⟨rfl, h2.lt⟩ : Upd w bb (us.toArray.toList.take off ++ (a.eval y).cells.toList ++ us.toArray.toList.drop (off + (a.eval y).cells.size)).toArray _).updO h2)
      refine H2.weak fun k ⟨k1, k2, ap, q, s1, s2⟩ => ⟨k1, k2, ap, q, ⟨bb, _, hE, setCs_rel h1 hv, ?_⟩, s2⟩
      have s1' : k1 bb = some (.cells (us.toArray.toList.take off ++ (a.eval y).cells.toList ++ us.toArray.toList.drop (off + (a.eval y).cells.size)).toArray ut (0, 0)) := s1
      rw [s1']
      simp
     ·exact h.elim
    ·exact h.elim
   ·rename_i l sz i off
    obtain ⟨u, hE, hx, _⟩ := r
    split at h
    ·rename_i ut e xs cc hob
     split at h
     ·rename_i hs
      obtain ⟨h0, h1, h⟩ := h
      rw [Bool.and_eq_true] at hs
      split at h
      ·rename_i x' hof
       letI := e.rep
       have hesz : GoRep.size e.den = e.size := Ty.rep_size e
       have hcv : RelC E g cc (a.eval y) := rv
       have hlt : off < e.size := by have := hs.2; simpa using this
       have H := St_sl S hE hob
       obtain ⟨w', h2, H2⟩ := SL.slSet (α := e.den) (P := X.P) (t := t) (x' := x') H h0 h1 (off := off) (by rw [hesz]; exact hlt) hcv.one (one_cells hcv.one) (by rw [hie]; exact congrArg some (Nat.eq_of_beq_eq_true hsz).symm) fun vs hvs => by
        have e1 : ixD e xs i = xs[i.toNat]'(by omega) := by
         unfold ixD
         rw [List.getD_eq_getElem?_getD, List.getElem?_eq_getElem (by omega)]; rfl
        rw [← e1] at hvs
        obtain ⟨h4, _⟩ := rel_cells E g e hvs
        obtain ⟨u1, u2, e2, h5, h6⟩ := of_cells e hof (h4.set off hcv)
        rw [e2, show u2 = [] from h6, List.append_nil]; exact h5
       rw [hesz, Nat.eq_of_beq_eq_true hs.1] at h2
       refine ⟨w', _, by simp [execOp, ho, hx, h2], S.back hE _ (Mono.refl g) ?_, h⟩
       exact H2.weak fun k ⟨k1, k2, ap, q, s1, s2⟩ => ⟨k1, k2, ap, q, ⟨u, hE, s1⟩, s2⟩
      ·exact h.elim
     ·exact h.elim
    ·rename_i ut e xs lc hob
     split at h
     ·rename_i hs
      obtain ⟨h0, h1, h⟩ := h
      rw [Bool.and_eq_true] at hs
      split at h
      ·rename_i x' hof
       letI := e.rep
       have hesz : GoRep.size e.den = e.size := Ty.rep_size e
       have hcl : (a.eval y).cells.size = lc.length := by
        have h3 : RelCs E g lc (a.eval y).cells.toList := hv
        have := h3.length
        rw [Array.length_toList] at this; exact this
       have hlt : off + lc.length ≤ e.size := Nat.le_of_ble_eq_true hs.2
       have H := St_sl S hE hob
       obtain ⟨w', h2, H2⟩ := SL.slSetN (α := e.den) (P := X.P) (t := t) (x' := x') (c := a.eval y) H h0 h1 (off := off) (by rw [hesz, hcl]; exact hlt) hone (by rw [hie, hlen]; rfl) fun vs hvs => by
        have e1 : ixD e xs i = xs[i.toNat]'(by omega) := by
         unfold ixD
         rw [List.getD_eq_getElem?_getD, List.getElem?_eq_getElem (by omega)]; rfl
        rw [← e1] at hvs
        obtain ⟨h4, _⟩ := rel_cells E g e hvs
        have h5 := setCs_rel (off := off) h4 hv
        obtain ⟨u1, u2, e2, h5, h6⟩ := of_cells e hof h5
        rw [show u2 = [] from h6, List.append_nil] at e2
        rw [List.append_assoc, e2]; exact h5
       rw [hesz, Nat.eq_of_beq_eq_true hs.1] at h2
       refine ⟨w', _, by simp [execOp, ho, hx, h2], S.back hE _ (Mono.refl g) ?_, h⟩
       exact H2.weak fun k ⟨k1, k2, ap, q, s1, s2⟩ => ⟨k1, k2, ap, q, ⟨u, hE, s1⟩, s2⟩
      ·exact h.elim
     ·exact h.elim
    ·exact h.elim
   ·exact h.elim
  ·exact h.elim
theorem at_end (S : Sta n W F b E g w s a) (v : Value) : (E ++ [v])[s.n]? = some v := by rw [← S.len]; simp
theorem run_alloc (S : Sta n W F b E g w s a) {t : TypeId} {z : List Cl} {K : SV → Ov → Prop} (ho : o.op = .alloc t) (hz : zeroCs X.P t = some z) (h : K (.c (.p s.n 0)) (s.new (.cells t z))) :
  ∃ v w', (execOp a.eval o).run X.P w = .ok (.value v) w' ∧ Out n W F b E g a K v w' := by
 unfold zeroCs at hz
 split at hz
 ·rename_i i hi
  split at hz
  ·rename_i z0 hz0
   have hr : (execOp a.eval o).run X.P w = .ok (.value (ptr w.heap.size 0)) (w.alloc (.cells z0.cells t)) := X_alloc ho hi hz0
   have hc : RelCs (E ++ [ptr w.heap.size 0]) g z z0.cells.toList := constCs_ok hz
   refine ⟨_, _, hr, _, g, _, _, EnvLe.app E [ptr w.heap.size 0], Mono.refl g, S.new (v := ptr w.heap.size 0) (Mono.refl g) ?_, (show RelV _ g (.c (.p s.n 0)) _ from ⟨w.heap.size, at_end S _, rfl⟩), h⟩
   have H := S.sat.sl.new (New.mk' w (.cells z0.cells t))
   exact H.weak fun k ⟨k1, k2, ap, q, s1, s2⟩ => ⟨k1, k2, ap, q, ⟨w.heap.size, z0.cells.toList, at_end S _, hc, by have s1' : k1 w.heap.size = some (.cells z0.cells t (0, 0)) := s1; rw [s1']⟩, s2⟩
  ·cases hz
 ·cases hz
theorem bldOf_ok {q : Option (TypeId × TypeId)} {t e : TypeId} {z : List Cl} (h : bldOf q t z = some e) : z = [.k (.pointer none), .k (.slice none 0 0)] := by
 unfold bldOf at h
 split at h
 ·rfl
 ·cases h
theorem run_alloc_b (S : Sta n W F b E g w s a) {t e : TypeId} {z : List Cl} {K : SV → Ov → Prop} (ho : o.op = .alloc t) (hz : zeroCs X.P t = some z) {q : Option (TypeId × TypeId)} (hb : bldOf q t z = some e) (h : K (.c (.p s.n 0)) (s.new (.ab (.bld t e [])))) :
  ∃ v w', (execOp a.eval o).run X.P w = .ok (.value v) w' ∧ Out n W F b E g a K v w' := by
 obtain rfl := bldOf_ok hb
 unfold zeroCs at hz
 split at hz
 ·rename_i i hi
  split at hz
  ·rename_i z0 hz0
   have hr : (execOp a.eval o).run X.P w = .ok (.value (ptr w.heap.size 0)) (w.alloc (.cells z0.cells t)) := X_alloc ho hi hz0
   have hc : RelCs (E ++ [ptr w.heap.size 0]) g [.k (.pointer none), .k (.slice none 0 0)] z0.cells.toList := constCs_ok hz
   have hc2 : z0.cells = #[.pointer none, .slice none 0 0] := by
    obtain ⟨u, r, e1, ⟨e2, _⟩, u2, r2, e3, ⟨e4, _⟩, e5⟩ := hc
    have e5 : r2 = [] := e5
    subst e2 e4 e5 e3
    exact Array.toList_inj.1 e1
   refine ⟨_, _, hr, _, g, _, _, EnvLe.app E [ptr w.heap.size 0], Mono.refl g, S.new (v := ptr w.heap.size 0) (Mono.refl g) ?_, (show RelV _ g (.c (.p s.n 0)) _ from ⟨w.heap.size, at_end S _, rfl⟩), h⟩
   have H := S.sat.sl.new (New.mk' w (.cells z0.cells t))
   rw [hc2] at H ⊢
   have H2 := @SL.slNil _ _ _ _ Ty.u8.den Ty.u8.rep e H
   have H3 := (H2.to [1, 0]).addPure (p := ptr w.heap.size 0 = ptr w.heap.size 0 ∧ ((Value.pointer none = .pointer none) ∨ Value.pointer none = ptr w.heap.size 0)) ⟨rfl, .inl rfl⟩
   have H4 : SL W g _ (bldA t e [] (ptr w.heap.size 0) :: _) := SL.shutE (f := fun (q : Nat × Value × Value) => [pureA (ptr w.heap.size 0 = ptr q.1 0 ∧ (q.2.1 = .pointer none ∨ q.2.1 = ptr q.1 0)), Lm.blk q.1 #[q.2.1, q.2.2] t, slO .u8 e q.2.2 []]) (w.heap.size, .pointer none, .slice none 0 0) H3
   exact H4.weak fun k ⟨k1, k2, ap, q, s1, s2⟩ => ⟨k1, k2, ap, q, ⟨_, at_end S _, s1⟩, s2⟩
  ·cases hz
 ·cases hz
theorem run_box (S : Sta n W F b E g w s a) {t : TypeId} {x : Operand} {v : S1} {K : SV → Ov → Prop} (ho : o.op = .box t x) (r : RelV E g (.v v) (a.eval x)) (h : K (.c (.p s.n 0)) (s.new (.cells t v.cells))) :
  ∃ v w', (execOp a.eval o).run X.P w = .ok (.value v) w' ∧ Out n W F b E g a K v w' := by
 have hr : (execOp a.eval o).run X.P w = .ok (.value (ptr w.heap.size 0)) (w.alloc (.cells (a.eval x).cells t)) := X_box ho rfl
 have hc : RelCs (E ++ [ptr w.heap.size 0]) g v.cells (a.eval x).cells.toList := (RelS.cells r).mono (EnvLe.app E _) (Mono.refl g)
 refine ⟨_, _, hr, _, g, _, _, EnvLe.app E [ptr w.heap.size 0], Mono.refl g, S.new (v := ptr w.heap.size 0) (Mono.refl g) ?_, (show RelV _ g (.c (.p s.n 0)) _ from ⟨w.heap.size, at_end S _, rfl⟩), h⟩
 have H := S.sat.sl.new (New.mk' w (.cells (a.eval x).cells t))
 exact H.weak fun k ⟨k1, k2, ap, q, s1, s2⟩ => ⟨k1, k2, ap, q, ⟨w.heap.size, (a.eval x).cells.toList, at_end S _, hc, by have s1' : k1 w.heap.size = some (.cells (a.eval x).cells t (0, 0)) := s1; rw [s1']⟩, s2⟩

instance oneCellsTy (e : Ty) : @OneCells e.den e.rep := @OneCells.mk e.den e.rep fun {g _ _} h => ((rel_cells ([] : Env) g e h).1).one
theorem rd_isD {e : Ty} {v : Value} {xs : List e.den} (h : IsD e g v xs) (m : Mono g w) : @Rd e.den e.rep g w v xs := @Is.rd e.den e.rep g w v xs h m
theorem rd_slO {e : Ty} {t : TypeId} {v : Value} {xs : List e.den} {l : List Atom} (H : SL W g w (slO e t v xs :: l)) : @Rd e.den e.rep g w v xs := by
 letI := e.rep
 exact SL.slRd0 (α := e.den) H
theorem listOf_rd (S : Sta n W F b E g w s a) {e : Ty} {x : Cl} {u : Value} {ys : List e.den} (r : RelC E g x u) (h : listOf b s e x = some ys) : @Rd e.den e.rep g w u ys ∧ IsD e w u ys := by
 unfold listOf at h
 split at h
 ·cases h
  obtain ⟨rfl, _⟩ := r
  exact ⟨.inl ⟨rfl, rfl⟩, (@is_list e.den e.rep w _ _).2 (.inl ⟨rfl, rfl⟩)⟩
 ·obtain ⟨q, hy⟩ := asD_some h
  subst q
  subst hy
  exact ⟨rd_isD r S.m, IsD.mono S.m r⟩
 ·obtain ⟨hE, _⟩ := r
  split at h
  ·rename_i hob
   obtain ⟨q, hy⟩ := asD_some h
   subst q
   subst hy
   exact ⟨rd_slO (St_sl S hE hob), isD_sl (St_sl S hE hob)⟩
  ·rename_i hob
   obtain ⟨q, hy⟩ := asD_some h
   subst q
   subst hy
   exact ⟨rd_isD (St_held S hE hob) S.m, (St_held S hE hob).mono S.m⟩
  ·cases h
 ·cases h
theorem srcV_ok (S : Sta n W F b E g w s a) {e : Ty} {x : Cl} {u : Value} {K : List e.den → Prop} (r : RelC E g x u) (h : srcV b s e x K) : ∃ ys, @Rd e.den e.rep g w u ys ∧ IsD e w u ys ∧ K ys := by
 unfold srcV at h
 split at h
 ·rename_i q sz lo hi
  obtain ⟨v, hE, hu, _⟩ := r
  split at h
  ·rename_i t e' xs hob
   have h9 := if_ok h
   clear h
   obtain ⟨hsz, h1, h2, h3, h4⟩ := h9
   split at h4
   ·rename_i ys hys
    obtain ⟨q', hy⟩ := asD_some hys
    subst q'
    have hy' : ys = (xs.drop lo.toNat).take (hi.toNat - lo.toNat) := hy
    subst hy'
    have H := St_sl S hE hob
    obtain rfl := Nat.eq_of_beq_eq_true hsz
    have k1 := @Rd.slice e'.den e'.rep g w v xs lo hi (rd_slO H) h1 h2 h3
    rw [show @GoRep.size e'.den e'.rep = e'.size from Ty.rep_size e'] at k1
    subst hu
    exact ⟨_, k1, slice_isD (isD_sl H) h1 h2 h3, h4⟩
   ·exact h4.elim
  ·exact h.elim
 ·split at h
  ·rename_i ys hys
   obtain ⟨h1, h2⟩ := listOf_rd S r hys
   exact ⟨ys, h1, h2, h⟩
  ·exact h.elim
theorem append_where_str {P : Program} {w : World} (base : Nat) (t u ty e : TypeId) (i : TypeInfo) (ht : P.underlying t = some (.slice e)) (hu : P.underlying u = some .string) (hi : P.info? e = some i) (hz : i.zero = some (.int .u8 0))
  (hsize : i.size = 1) (hby : i.bytes = 1) (v : Value) (m : Nat) (xs : List Value) (hown : w.ownsRow base e 1 v m xs) (z : ByteArray)
  (h63 : m + z.size ≤ maxLen) (hbytes : m + z.size ≤ 140737488355328) {v' : Value} {w' : World} (hr : (Builtin.append_ #[t, u] ty #[v, .string z]).run P w = .ok v' w') :
  ∀ k, v'.ownBlock = some k → v.ownBlock = some k ∨ w.heap.size ≤ k := by
 have hxl : xs.length = m := by simpa using hown.1
 have hsmall : m + z.size ≤ 9223372036854775807 := by simp only [maxLen] at h63; omega
 rcases hown.2 with ⟨rfl, rfl⟩ | ⟨gb, cap, cur, rfl, hbg, hg, hnc, hcm, hcs, htake⟩
 ·by_cases hm : z.size = 0
  ·have hf := Go.Lib.run_firstCells_string (P := P) w 1 z
   rw [hm] at hf
   have hrun : (Builtin.append_ #[t, u] ty #[.slice none 0 0, .string z]).run P w = .ok (.slice none 0 0) w := by
    simp [Builtin.append_, run_underlying ht, run_underlying hu, sizeOf, typeInfo, hi, hsize, Builtin.lenOf, hm, hf]
   rw [hrun] at hr
   cases hr
   intro k hk
   simp [Value.ownBlock] at hk
  ·rw [run_append_nil_string (P := P) w t u ty e i (.int .u8 0) ht hu hi hz z (by omega) (by omega) (by rw [hby]; omega)] at hr
   cases hr
   intro k hk
   have : w.heap.size = k := by simpa [Value.ownBlock] using hk
   exact .inr (by omega)
 ·by_cases hroom : m + z.size ≤ cap
  ·have hcs' : cur.size = cap := by simpa using hcs
   rw [Go.Lib.run_append_room_string (P := P) w t u ty e i ht hu hi hsize gb m cap cur hg z hroom (by omega)] at hr
   cases hr
   exact fun k hk => .inl hk
  ·have holds : ∀ j u, xs[j]? = some u → w.cell? ((⟨gb, 0, none⟩ : Addr).add j) = some u := hown.cells (g := gb) rfl
   rw [Go.Lib.run_append_grow_string (P := P) w t u ty e i (.int .u8 0) ht hu hi hz ⟨gb, 0, none⟩ m cap xs (by rw [hsize]; simpa using hxl) holds z (by omega) (by omega) (by rw [hby]; exact growslice_fits (by omega) (by omega))] at hr
   cases hr
   intro k hk
   have : w.heap.size = k := by simpa [Value.ownBlock] using hk
   exact .inr (by omega)
theorem str_rows (g : World) : ∀ l : List UInt8, RelL g (l.map fun c => [Value.int .u8 (c.toNat : Int)]) l ∧ (l.map fun c => [Value.int .u8 (c.toNat : Int)]).flatten = l.map fun c => Value.int .u8 (c.toNat : Int)
 | [] => ⟨trivial, rfl⟩
 | c :: l => ⟨⟨rfl, (str_rows g l).1⟩, by rw [List.map_cons, List.flatten_cons, (str_rows g l).2]; rfl⟩
theorem run_appStrV (S : Sta n W F b E g w s a) {t t2 : TypeId} {x y : Operand} {cx cy : Cl} {K : SV → Ov → Prop} (ho : o.op = .call { callee := .builtin .append, args := #[x, y], argTypes := #[t, t2] }) (rx : RelC E g cx (a.eval x)) (ry : RelC E g cy (a.eval y)) (h : appStrV X b s t t2 cx cy K) :
  ∃ v w', (execOp a.eval o).run X.P w = .ok (.value v) w' ∧ Out n W F b E g a K v w' := by
 unfold appStrV at h
 split at h
 ·rename_i et z ht hu
  obtain ⟨hy, hz⟩ := ry
  obtain ⟨hu8, h⟩ := if_ok h
  obtain ⟨ie, hie, hs1, hz0, hb1⟩ : ∃ ie, X.P.info? et = some ie ∧ ie.size = 1 ∧ ie.zero = some (.int .u8 0) ∧ ie.bytes = 1 := by
   unfold isU8 at hu8
   split at hu8
   ·rename_i ie hie
    rw [Bool.and_eq_true] at hu8
    obtain ⟨h1, h2⟩ := hu8
    split at h2
    ·rename_i hz0
     exact ⟨ie, hie, Nat.eq_of_beq_eq_true h1, hz0, Nat.eq_of_beq_eq_true h2⟩
    ·cases h2
   ·cases hu8
  have hzl : z.data.toList.length = z.size := by rw [Array.length_toList]; rfl
  have app : ∀ {xs : List UInt8} {v : Value} {L : List Atom}, SL W g w (slO .u8 et v xs :: L) → a.eval x = v → xs.length + z.size ≤ 140737488355328 →
    ∃ v' w', (execOp a.eval o).run X.P w = .ok (.value v') w' ∧ SL W g w' (slO .u8 et v' (xs ++ z.data.toList) :: L) ∧ ∃ q m c, v' = .slice q m c := fun {xs v L} H hx hb => by
   obtain ⟨cs, hrel, H1⟩ := SL.slO (α := UInt8) H
   have hrow := H1.row
   obtain ⟨v', w', hrun, hown', hgrow, _⟩ := Go.Lib.run_append_own_string (P := X.P) (w := w) W.n t t2 o.type et ie ht hu hie hz0 hs1 hb1 v xs.length cs.flatten hrow z (by unfold maxLen; omega) hb H.size
   have hwhere := append_where_str (P := X.P) W.n t t2 o.type et ie ht hu hie hz0 hs1 hb1 v xs.length cs.flatten hrow z (by unfold maxLen; omega) hb hrun
   have H2 := H1.grown hown' hgrow hwhere
   have hstr : Go.Lib.strCells z = z.data.toList.map fun c => Value.int .u8 (c.toNat : Int) := by
    simp [Go.Lib.strCells]
   have H3 : SL W g w' (slO .u8 et v' (xs ++ z.data.toList) :: L) := by
    refine SL.slI (α := UInt8) (cs := cs ++ (z.data.toList.map fun c => [Value.int .u8 (c.toNat : Int)])) (hrel.append (str_rows g _).1) ?_
    rw [List.flatten_append, (str_rows g _).2, List.length_append, hzl, ← hstr]
    exact H2
   obtain ⟨q, m, c, hv, _⟩ := slO_nil H3
   exact ⟨v', w', by simp [execOp, ho, resolve, invoke, builtin, hx, hy, hrun], H3, q, m, c, hv⟩
  split at h
  ·obtain ⟨hb, h⟩ := h
   obtain ⟨hx, _⟩ := rx
   have H := SL.slNil UInt8 et S.sat.sl
   obtain ⟨v', w', hr, H', hv⟩ := app (xs := []) H hx (by simpa using hb)
   refine ⟨v', w', hr, E ++ [v'], g, _, _, EnvLe.app E _, Mono.refl g, S.new (v := v') (Mono.refl g) ?_, (show RelV _ g (.c (.o s.n)) v' from ⟨at_end S _, hv⟩), h⟩
   exact H'.weak fun k ⟨k1, k2, ap, q, s1, s2⟩ => ⟨k1, k2, ap, q, ⟨v', at_end S _, by simpa using s1⟩, s2⟩
  ·obtain ⟨hE, _⟩ := rx
   split at h
   ·rename_i l _ et' e' xs0 hob
    obtain ⟨hte, h⟩ := if_ok h
    obtain rfl := Nat.eq_of_beq_eq_true hte
    split at h
    ·rename_i xs hxs
     obtain ⟨hb, hK⟩ := h
     obtain ⟨q, hq⟩ := asD_some hxs
     subst q
     subst hq
     obtain ⟨v', w', hr, H', hv⟩ := app (St_sl S hE hob) rfl hb
     refine ⟨v', w', hr, E ++ [v'], g, _, _, EnvLe.app E _, Mono.refl g, S.move (v := v') hE (Mono.refl g) ?_, (show RelV _ g (.c (.o s.n)) v' from ⟨at_end S _, hv⟩), hK⟩
     exact H'.weak fun k ⟨k1, k2, ap, q, s1, s2⟩ => ⟨k1, k2, ap, q, ⟨v', at_end S _, s1⟩, s2⟩
    ·exact h.elim
   ·exact h.elim
  ·exact h.elim
 ·exact h.elim
theorem run_appendV (S : Sta n W F b E g w s a) {t t2 : TypeId} {x y : Operand} {cx cy : Cl} {K : SV → Ov → Prop} (ho : o.op = .call { callee := .builtin .append, args := #[x, y], argTypes := #[t, t2] }) (rx : RelC E g cx (a.eval x)) (ry : RelC E g cy (a.eval y)) (h : appendV X b s t t2 cx cy K) :
  ∃ v w', (execOp a.eval o).run X.P w = .ok (.value v) w' ∧ Out n W F b E g a K v w' := by
 unfold appendV at h
 split at h
 ·exact h.elim
 ·rename_i et e ie hel
  have hel' : X.P.underlying t = some (.slice et) ∧ X.P.info? et = some ie ∧ e.size = ie.size := by
   unfold elemT at hel
   split at hel
   ·rename_i et' ht
    split at hel
    ·rename_i ie' e' hie hty
     split at hel
     ·rename_i hs
      cases hel
      exact ⟨ht, hie, Nat.eq_of_beq_eq_true hs⟩
     ·cases hel
    ·cases hel
   ·cases hel
  obtain ⟨ht, hie, hsz⟩ := hel'
  split at h
  ·rename_i htt
   obtain rfl := Nat.eq_of_beq_eq_true htt
   ·obtain ⟨ys, hrd, hisd, h⟩ := srcV_ok S ry h
    letI := e.rep
    have hesz : GoRep.size e.den = e.size := Ty.rep_size e
    -- the append itself
    have app : ∀ {xs : List e.den} {v : Value} {L : List Atom}, SL W g w (slO e et v xs :: L) → a.eval x = v → appOk X et e = true → (xs.length + ys.length) * ie.bytes ≤ 140737488355328 → xs.length + ys.length ≤ 9223372036854775807 →
      ∃ v' w', (execOp a.eval o).run X.P w = .ok (.value v') w' ∧ SL W g w' (slO e et v' (xs ++ ys) :: L) ∧ ∃ q m c, v' = .slice q m c := fun {xs v L} H hx hok hb hm => by
     unfold appOk at hok
     rw [hie] at hok
     simp only [Bool.and_eq_true] at hok
     obtain ⟨h1, h2⟩ := hok
     cases hz : ie.zero with
     | none => rw [hz] at h2; cases h2
     | some z =>
      rw [hz] at h2
      obtain ⟨v', w', hr, H', _⟩ := SL.append (α := e.den) (P := X.P) (t := t) (ty := o.type) (bytes := ie.bytes) H hrd ht (by rw [hie, hesz, hsz]; simp [hz]) (by rw [hie]; simp [hz]; rw [hesz]; exact Nat.eq_of_beq_eq_true h2) (by rw [hesz]; simpa using h1) hb hm
      obtain ⟨q, m, c, hv, _⟩ := slO_nil H'
      exact ⟨v', w', by simp [execOp, ho, resolve, invoke, builtin, hx, hr], H', q, m, c, hv⟩
    split at h
    ·obtain ⟨hok, hb, h⟩ := if_ok h
     obtain ⟨hx, _⟩ := rx
     have H := SL.slNil e.den et S.sat.sl
     have hlen := isD_len hisd
     obtain ⟨v', w', hr, H', hv⟩ := app (xs := []) H hx hok (by simpa using hb) (by simpa using hlen)
     refine ⟨v', w', hr, E ++ [v'], g, _, _, EnvLe.app E _, Mono.refl g, S.new (v := v') (Mono.refl g) ?_, (show RelV _ g (.c (.o s.n)) v' from ⟨at_end S _, hv⟩), h⟩
     exact H'.weak fun k ⟨k1, k2, ap, q, s1, s2⟩ => ⟨k1, k2, ap, q, ⟨v', at_end S _, by simpa using s1⟩, s2⟩
    ·obtain ⟨hE, _⟩ := rx
     split at h
     ·rename_i l _ et' e' xs0 hob
      split at h
      ·rename_i hte
       obtain rfl := Nat.eq_of_beq_eq_true hte
       split at h
       ·rename_i xs hxs
        obtain ⟨hok, hb, hm, h⟩ := if_ok h
        obtain ⟨q, hy⟩ := asD_some hxs
        subst q
        subst hy
        obtain ⟨v', w', hr, H', hv⟩ := app (St_sl S hE hob) rfl hok hb hm
        refine ⟨v', w', hr, E ++ [v'], g, _, _, EnvLe.app E _, Mono.refl g, S.move (v := v') hE (Mono.refl g) ?_, (show RelV _ g (.c (.o s.n)) v' from ⟨at_end S _, hv⟩), h⟩
        exact H'.weak fun k ⟨k1, k2, ap, q, s1, s2⟩ => ⟨k1, k2, ap, q, ⟨v', at_end S _, s1⟩, s2⟩
       ·exact h.elim
      ·exact h.elim
     ·exact h.elim
    ·exact h.elim
  ·exact run_appStrV S ho rx ry h
end
end Go.Lm

namespace Go.Lm
open Go Go.RowKit
section
variable {X : Vx} {n : Nat} {W : Base} {F : List Atom} {b : Bs} {E : Env} {g w : World} {s : Ov} {a : Act} {o : Oper}
theorem fold_set : ∀ (vs : List Value) (k : Nat) (us : List Value) (off : Nat), off + k + vs.length ≤ us.length →
  (vs.zipIdx k).foldl (fun (q : Array Value) (p : Value × Nat) => q.setIfInBounds (off + p.2) p.1) us.toArray = (us.take (off + k) ++ (vs ++ us.drop (off + k + vs.length))).toArray
 | [], k, us, off, _ => by simp
 | v :: r, k, us, off, h => by
  have h' : off + k < us.length := by simp at h; omega
  rw [List.zipIdx_cons, List.foldl_cons]
  have e : us.toArray.setIfInBounds (off + k) v = (us.set (off + k) v).toArray := by simp
  show (r.zipIdx (k + 1)).foldl _ (us.toArray.setIfInBounds (off + k) v) = _
  rw [e, fold_set r (k + 1) (us.set (off + k) v) off (by simp at h ⊢; omega)]
  congr 1
  have h1 : (us.set (off + k) v).take (off + (k + 1)) = us.take (off + k) ++ [v] := by
   rw [show off + (k + 1) = off + k + 1 by omega, List.take_add_one, List.getElem?_set_self (by simpa using h'), List.take_set_of_le (by omega)]; simp
  have h2 : (us.set (off + k) v).drop (off + (k + 1) + r.length) = us.drop (off + k + (v :: r).length) := by
   rw [List.drop_set_of_lt (by omega)]
   congr 1
   simp; omega
  rw [h1, h2]; simp
inductive PartsR (E : Env) (g : World) (a : Act) : List (Nat × S1) → List (Nat × Operand) → Prop
 | nil : PartsR E g a [] []
 | cons {i : Nat} {v : S1} {x : Operand} {ps : List (Nat × S1)} {l : List (Nat × Operand)} (h : RelS E g v (a.eval x)) (k : PartsR E g a ps l) : PartsR E g a ((i, v) :: ps) ((i, x) :: l)
theorem partsV_ok (S : Sta n W F b E g w s a) : ∀ {l : List (Nat × Operand)} {ps : List (Nat × S1)}, partsV b s l = some ps → PartsR E g a ps l
 | [], ps, h => by
  obtain rfl : [] = ps := Option.some.inj h
  exact .nil
 | (i, x) :: r, ps, h => by
  unfold partsV at h
  split at h
  ·rename_i v hv
   split at h
   ·rename_i l hl
    obtain rfl : (i, v) :: l = ps := Option.some.inj h
    exact .cons (S.opd hv) (partsV_ok S hl)
   ·cases h
  ·cases h
theorem fillV_ok {place : Nat → Option (Nat × Nat)} : ∀ {ps : List (Nat × S1)} {l : List (Nat × Operand)} {cs cs' : List Cl} {us : List Value}, fillV place cs ps = some cs' → PartsR E g a ps l → RelCs E g cs us →
  ∃ us', Instr.fill place us.toArray (l.map fun q => (q.1, a.eval q.2)) = some us'.toArray ∧ RelCs E g cs' us'
 | [], _, cs, cs', us, h, .nil, hc => by
  obtain rfl : cs = cs' := Option.some.inj h
  exact ⟨us, rfl, hc⟩
 | (i, v) :: r, _, cs, cs', us, h, .cons (x := x) h2 h3, hc => by
  unfold fillV at h
  split at h
  ·cases h
  ·rename_i off size hp
   split at h
   ·rename_i hsz
    split at h
    ·rename_i hle
     have hv := RelS.cells h2
     have hl : (a.eval x).cells.size = size := by
      have := hv.length
      rw [Array.length_toList] at this
      rw [this]; exact Nat.eq_of_beq_eq_true hsz
     have hle' : off + size ≤ us.length := by rw [hc.length]; exact Nat.le_of_ble_eq_true hle
     obtain ⟨us', h4, h5⟩ := fillV_ok h h3 (setCs_rel (off := off) hc hv)
     refine ⟨us', ?_, h5⟩
     show Instr.fill place us.toArray ((i, a.eval x) :: _) = _
     unfold Instr.fill
     simp only [hp]
     have hc1 : ((a.eval x).cells.size != size || decide (off + (a.eval x).cells.size > us.toArray.size)) = false := by
      rw [hl]; simp; omega
     rw [if_neg (by simpa using hc1)]
     have e := fold_set (a.eval x).cells.toList 0 us off (by rw [Array.length_toList, hl]; omega)
     have e2 : (a.eval x).cells.zipIdx.foldl (fun (q : Array Value) (p : Value × Nat) => q.setIfInBounds (off + p.2) p.1) us.toArray = ((a.eval x).cells.toList.zipIdx 0).foldl (fun (q : Array Value) (p : Value × Nat) => q.setIfInBounds (off + p.2) p.1) us.toArray := by
      rw [← Array.foldl_toList, Array.toList_zipIdx]
     have e3 : (a.eval x).cells.zipIdx.foldl (fun cs (x : Value × Nat) => match x with | (c, j) => cs.setIfInBounds (off + j) c) us.toArray = (us.take off ++ ((a.eval x).cells.toList ++ us.drop (off + (a.eval x).cells.toList.length))).toArray := by
      rw [Nat.add_zero] at e
      exact e2.trans e
     rw [e3]; exact h4
    ·cases h
   ·cases h

theorem run_buildV {t : TypeId} {parts : Array (Nat × Operand)} {ps : List (Nat × S1)} {K : SV → Prop} (ho : o.op = .build t parts) (hp : PartsR E g a ps parts.toList) (h : buildV X.P t ps K) : ER X.P o a w E g K := by
 unfold buildV zeroCs at h
 split at h
 ·exact h.elim
 ·rename_i z hz
  split at hz
  ·rename_i it hit
   split at hz
   ·rename_i z0 hz0
    have hzc : RelCs E g z z0.cells.toList := constCs_ok hz
    have key : ∀ {place : Nat → Option (Nat × Nat)} {cs : List Cl}, fillV place z ps = some cs → ∃ us', Instr.fill place z0.cells (parts.toList.map fun q => (q.1, a.eval q.2)) = some us'.toArray ∧ RelCs E g cs us' := fun {place cs} hf => by
     have := fillV_ok hf hp hzc
     simpa using this
    have hmap : (parts.map fun (i, x) => (i, a.eval x)).toList = parts.toList.map fun q => (q.1, a.eval q.2) := by rw [Array.toList_map]
    split at h
    ·rename_i fs hu
     split at h
     ·rename_i places hpl
      split at h
      ·rename_i cs hf
       obtain ⟨us', h1, h2⟩ := key hf
       refine ⟨.agg us'.toArray, .v (.agg cs), ?_, ⟨us', h2, rfl⟩, h⟩
       have hb : X.P.built t (parts.map fun (i, x) => (i, a.eval x)).toList = some us'.toArray := by
        rw [hmap]
        unfold Program.built
        simp only [hit, hu, hz0, hpl]
        exact h1
       simp only [execOp, ho, Sem.run_bind, run_build w t _ _ hb, Result.andThen_ok]
       rfl
      ·exact h.elim
     ·exact h.elim
    ·rename_i m e hu
     split at h
     ·rename_i ie hie
      split at h
      ·rename_i cs hf
       obtain ⟨us', h1, h2⟩ := key hf
       refine ⟨.agg us'.toArray, .v (.agg cs), ?_, ⟨us', h2, rfl⟩, h⟩
       have hb : X.P.built t (parts.map fun (i, x) => (i, a.eval x)).toList = some us'.toArray := by
        rw [hmap]
        unfold Program.built
        simp only [hit, hu, hz0, hie]
        exact h1
       simp only [execOp, ho, Sem.run_bind, run_build w t _ _ hb, Result.andThen_ok]
       rfl
      ·exact h.elim
     ·exact h.elim
    ·exact h.elim
   ·cases hz
  ·cases hz
theorem strsOf_ok : ∀ {off m : Nat} {cs : List Cl} {zs : List ByteArray} {us : List Value}, strsOf off m cs = some zs → RelCs E g cs us → zs.length = m ∧ ∀ (i : Nat) z, zs[i]? = some z → us[off + i]? = some (.string z) ∧ z.size ≤ maxLen
 | 0, 0, _, zs, _, h, _ => by
  simp only [strsOf, Option.some.injEq] at h
  subst h
  exact ⟨rfl, fun i z h => by simp at h⟩
 | 0, m + 1, c :: r, zs, us, h, ⟨u, q, e, h1, h2⟩ => by
  subst e
  unfold strsOf at h
  split at h
  ·rename_i z
   split at h
   ·rename_i l hl
    obtain rfl : z :: l = zs := Option.some.inj h
    obtain ⟨h3, h4⟩ := strsOf_ok hl h2
    refine ⟨by simp [h3], fun i y hy => ?_⟩
    cases i with
    | zero =>
     obtain rfl : z = y := by simpa using hy
     obtain ⟨rfl, hz⟩ := h1
     exact ⟨rfl, hz⟩
    | succ i =>
     obtain ⟨h5, h6⟩ := h4 i y (by simpa using hy)
     refine ⟨?_, h6⟩
     rw [show 0 + (i + 1) = (0 + i) + 1 by omega, List.getElem?_cons_succ]
     exact h5
   ·cases h
  ·cases h
 | off + 1, m, c :: r, zs, us, h, ⟨u, q, e, _, h2⟩ => by
  subst e
  obtain ⟨h3, h4⟩ := strsOf_ok (off := off) h h2
  refine ⟨h3, fun i y hy => ?_⟩
  rw [show off + 1 + i = (off + i) + 1 by omega, List.getElem?_cons_succ]
  exact h4 i y hy
 | 0, m + 1, [], _, _, h, _ => by cases h
 | off + 1, m, [], _, _, h, _ => by cases h
theorem holdCs_ok : ∀ {cs : List Cl} {us : List Value} {s : Ov} {g : World} {k : List Cl → Ov → Prop}, Sta n W F b E g w s a → RelCs E g cs us → holdCs b cs s k → ∃ g' s' cs', Mono g g' ∧ Sta n W F b E g' w s' a ∧ RelCs E g' cs' us ∧ k cs' s'
 | [], us, s, g, k, S, hc, h => ⟨g, s, [], Mono.refl g, S, hc, h⟩
 | c :: r, us, s, g, k, S, ⟨u, q, e, h1, h2⟩, h => by
  subst e
  unfold holdCs at h
  split at h
  ·rename_i l
   have hE := h1.1
   split at h
   ·rename_i t e xs hob
    letI := e.rep
    obtain ⟨g1, m1, H1, hi⟩ := SL.slHold0 (α := e.den) (St_sl S hE hob)
    have S1 : Sta n W F b E g1 w (s.setO l (.held t e xs)) a := S.back hE _ m1 (H1.weak fun k s2 => ⟨fun _ => none, k, fun _ => .inl rfl, rfl, (show (atomO E l (.held t e xs)).sat g1 _ from ⟨u, hE, hi⟩), s2⟩)
    obtain ⟨g2, s2, cs2, m2, S2, h3, h4⟩ := holdCs_ok S1 (h2.mono (EnvLe.refl E) m1) h
    exact ⟨g2, s2, _, m1.trans m2, S2, RelCs.cons (show RelC E g2 (.d e xs) u from IsD.mono m2 hi) h3, h4⟩
   ·rename_i t e xs hob
    have hi := St_held S hE hob
    obtain ⟨g2, s2, cs2, m2, S2, h3, h4⟩ := holdCs_ok S h2 h
    exact ⟨g2, s2, _, m2, S2, RelCs.cons (show RelC E g2 (.d e xs) u from IsD.mono m2 hi) h3, h4⟩
   ·exact h.elim
  ·rename_i l off m
   obtain ⟨bb, c, hE, hmc, hu⟩ := h1
   split at h
   ·rename_i t cs0 hob
    split at h
    ·rename_i zs hzs
     obtain ⟨us0, hr, _, H⟩ := St_cells S hE hob
     obtain ⟨hlen, hcell⟩ := strsOf_ok hzs hr
     obtain ⟨g1, m1, H1, hg⟩ := SL.hold0 H
     have S1 : Sta n W F b E g1 w (s.setO l .gone) a := S.back hE .gone m1 (H1.weak fun k s2 => ⟨fun _ => none, k, fun _ => .inl rfl, rfl, trivial, s2⟩)
     have hi : IsD .str g1 u zs := by
      refine (is_list (α := ByteArray)).2 ?_
      refine .inr ⟨⟨bb, off, none⟩, c, by rw [hu, hlen], by rw [hlen]; exact hmc.1, hmc.2, fun i x hx => ⟨[.string x], fun j v hj => ?_, rfl, (hcell i x hx).2⟩⟩
      match j, hj with
      | 0, hj =>
       obtain rfl : v = .string x := by simpa using hj.symm
       have e1 : (Addr.mk bb off none).add (i * GoRep.size ByteArray + 0) = ⟨bb, off + i, none⟩ := by simp [Addr.add, GoRep.size]
       rw [e1, hg]
       simpa using (hcell i x hx).1
      | j + 1, hj => simp at hj
     obtain ⟨g2, s2, cs2, m2, S2, h3, h4⟩ := holdCs_ok S1 (h2.mono (EnvLe.refl E) m1) h
     exact ⟨g2, s2, _, m1.trans m2, S2, RelCs.cons (show RelC E g2 (.d .str zs) u from IsD.mono m2 hi) h3, h4⟩
    ·exact h.elim
   ·exact h.elim
  ·obtain ⟨g2, s2, cs2, m2, S2, h3, h4⟩ := holdCs_ok S h2 h
   exact ⟨g2, s2, _, m2, S2, RelCs.cons (h1.mono (EnvLe.refl E) m2) h3, h4⟩
theorem ofAll_ok {e : Ty} : ∀ (m : Nat) {cs : List Cl} {us : List Value} {xs : List e.den}, ofAll e m cs = some xs → RelCs E g cs us → ∃ css : List (List Value), css.flatten = us ∧ @RelL e.den e.rep g css xs ∧ xs.length = m
 | 0, [], us, xs, h, hc => by
  obtain rfl : [] = xs := Option.some.inj h
  exact ⟨[], (show us = [] from hc).symm, trivial, rfl⟩
 | 0, _ :: _, us, xs, h, hc => by cases h
 | m + 1, cs, us, xs, h, hc => by
  unfold ofAll at h
  split at h
  ·rename_i x r hx
   split at h
   ·rename_i ys hys
    obtain rfl : x :: ys = xs := Option.some.inj h
    obtain ⟨u1, u2, e1, h1, h2⟩ := of_cells e hx hc
    obtain ⟨css, h3, h4, h5⟩ := ofAll_ok m hys h2
    exact ⟨u1 :: css, by rw [List.flatten_cons, h3, e1], ⟨h1, h4⟩, by simp [h5]⟩
   ·cases h
  ·cases h
theorem rep_cells {α : Type} : ∀ (m : Nat) (z : List α) (i : Nat), i < m * z.length → (List.replicate m z).flatten[i]? = z[i % z.length]?
 | 0, z, i, h => by simp at h
 | m + 1, z, i, h => by
  rw [List.replicate_succ, List.flatten_cons]
  by_cases hi : i < z.length
  ·rw [List.getElem?_append_left hi, Nat.mod_eq_of_lt hi]
  ·rw [List.getElem?_append_right (by omega), rep_cells m z (i - z.length) (by rw [Nat.add_mul] at h; omega)]
   congr 1
   exact (Nat.mod_eq_sub_mod (by omega)).symm
theorem rep_array (m : Nat) (z : Array Value) (hz : 0 < z.size) : (Array.range (m * z.size)).map (fun i => z[i % z.size]!) = ((List.replicate m z.toList).flatten).toArray := by
 apply Array.ext_getElem?
 intro i
 by_cases hi : i < m * z.size
 ·have := rep_cells m z.toList i (by simpa using hi)
  have hlt : i % z.size < z.size := Nat.mod_lt _ hz
  simp only [Array.length_toList, Array.getElem?_toList] at this
  simp only [List.getElem?_toArray, this]
  simp [hi, hlt]
 ·rw [Array.getElem?_eq_none (by simp; omega), Array.getElem?_eq_none (by simp; omega)]
theorem relCs_rep {z : List Cl} {us : List Value} (h : RelCs E g z us) : ∀ m : Nat, RelCs E g (List.replicate m z).flatten (List.replicate m us).flatten
 | 0 => RelCs.nil
 | m + 1 => by
  rw [List.replicate_succ, List.replicate_succ, List.flatten_cons, List.flatten_cons]
  exact h.app (relCs_rep h m)
theorem blk_sl {e : Ty} {et : TypeId} {bb m : Nat} {us : List Value} {xs : List e.den} {css : List (List Value)} {L : List Atom} (H : SL W g w (blk bb us.toArray et :: L)) (h1 : css.flatten = us) (h2 : @RelL e.den e.rep g css xs) (h3 : xs.length = m) (hm : m ≤ maxLen) :
  SL W g w (slO e et (.slice (some ⟨bb, 0, none⟩) m m) xs :: L) := by
 letI := e.rep
 have hlen := (RelL.length h2).2
 rw [h1] at hlen
 have H2 := SL.toRow (size := GoRep.size e.den) (cap := m) m H (Nat.le_refl _) hm (by rw [← h3]; simpa using hlen)
 subst h3
 refine SL.slI (α := e.den) (cs := css) h2 ?_
 have e1 : us.toArray.toList.take (xs.length * GoRep.size e.den) = css.flatten := by
  rw [h1, ← hlen]; simp
 rw [e1] at H2
 exact H2
end
end Go.Lm

namespace Go.Lm
open Go Go.RowKit
section
variable {X : Vx} {n : Nat} {W : Base} {F : List Atom} {b : Bs} {E : Env} {g w : World} {s : Ov} {a : Act} {o : Oper}
theorem elemT_ok {t et : TypeId} {e : Ty} {ie : TypeInfo} (h : elemT X t = some (et, e, ie)) : X.P.underlying t = some (.slice et) ∧ X.P.info? et = some ie ∧ e.size = ie.size := by
 unfold elemT at h
 split at h
 ·rename_i et' ht
  split at h
  ·rename_i ie' e' hie hty
   split at h
   ·rename_i hs
    cases h
    exact ⟨ht, hie, Nat.eq_of_beq_eq_true hs⟩
   ·cases h
  ·cases h
 ·cases h
theorem zeroCs_ok {P : Program} {t : TypeId} {z : List Cl} (h : zeroCs P t = some z) : ∃ i z0, P.info? t = some i ∧ i.zero = some z0 ∧ RelCs E g z z0.cells.toList := by
 unfold zeroCs at h
 split at h
 ·rename_i i hi
  split at h
  ·rename_i z0 hz0
   exact ⟨i, z0, hi, hz0, constCs_ok h⟩
  ·cases h
 ·cases h
theorem run_buildScV (S : Sta n W F b E g w s a) {t : TypeId} {m : Nat} {parts : Array (Nat × Operand)} {ps : List (Nat × S1)} {K : SV → Ov → Prop} (ho : o.op = .buildSlice t m parts) (hp : PartsR E g a ps parts.toList) (h : buildScV X s t m ps K) :
  ∃ v w', (execOp a.eval o).run X.P w = .ok (.value v) w' ∧ Out n W F b E g a K v w' := by
 unfold buildScV at h
 split at h
 ·rename_i et ht
  split at h
  ·rename_i ie z hie hz
   obtain ⟨i', z0, hie', hz0, hzc⟩ := zeroCs_ok (E := E) (g := g) hz
   rw [hie] at hie'
   obtain rfl := Option.some.inj hie'
   obtain ⟨hchk, h⟩ := if_ok h
   rw [Bool.and_eq_true, Bool.and_eq_true, Bool.and_eq_true] at hchk
   obtain ⟨⟨hc1, hc2, hc4⟩, hc3⟩ := hchk
   have hsm : m * ie.size ≤ 16777216 := Nat.le_of_ble_eq_true hc1
   have hpos : 0 < ie.size := by simpa using hc2
   have hm0 : 0 < m := by simpa using hc4
   have hzs : z0.cells.size = ie.size := by
    have := hzc.length
    rw [Array.length_toList] at this
    rw [this]; exact Nat.eq_of_beq_eq_true hc3
   split at h
   ·exact h.elim
   ·rename_i cs hf
    obtain ⟨us', h1, h2⟩ := fillV_ok hf hp (relCs_rep hzc m)
    have hmap : (parts.map fun (i, x) => (i, a.eval x)).toList = parts.toList.map fun q => (q.1, a.eval q.2) := by rw [Array.toList_map]
    have hr : (Instr.buildSlice t m (parts.map fun (i, x) => (i, a.eval x))).run X.P w = .ok (.slice (some ⟨w.heap.size, 0, none⟩) m m) (w.alloc (.cells us'.toArray et)) := by
     refine run_buildSlice w t et m _ us'.toArray ie z0 ht hie hz0 (by omega) (by have := Nat.mul_pos hm0 hpos; omega) ?_
     rw [hmap]
     have := rep_array m z0.cells (by omega)
     rw [hzs] at this
     rw [hzs, this]; exact h1
    have hrun : (execOp a.eval o).run X.P w = .ok (.value (.slice (some ⟨w.heap.size, 0, none⟩) m m)) (w.alloc (.cells us'.toArray et)) := by
     simp only [execOp, ho, Sem.run_bind, hr, Result.andThen_ok]
     rfl
    have H := S.sat.sl.new (New.mk' w (.cells us'.toArray et))
    have hml : m ≤ maxLen := by
     unfold maxLen
     have := Nat.le_mul_of_pos_right m hpos; omega
    refine ⟨_, _, hrun, E ++ [ptr w.heap.size 0], g, _, _, EnvLe.app E _, Mono.refl g, S.new (v := ptr w.heap.size 0) (Mono.refl g) ?_, (show RelV _ g (.c (.sc s.n 0 m)) _ from ⟨_, m, at_end S _, ⟨Nat.le_refl _, hml⟩, rfl⟩), h⟩
    exact H.weak fun k ⟨k1, k2, ap, q, s1, s2⟩ => ⟨k1, k2, ap, q, ⟨_, us', at_end S _, h2.mono (EnvLe.app E _) (Mono.refl g), s1⟩, s2⟩
  ·exact h.elim
 ·exact h.elim
theorem run_buildSliceV (S : Sta n W F b E g w s a) {t : TypeId} {m : Nat} {parts : Array (Nat × Operand)} {ps : List (Nat × S1)} {K : SV → Ov → Prop} (ho : o.op = .buildSlice t m parts) (hp : PartsR E g a ps parts.toList) (h : buildSliceV X b s t m ps K) :
  ∃ v w', (execOp a.eval o).run X.P w = .ok (.value v) w' ∧ Out n W F b E g a K v w' := by
 unfold buildSliceV at h
 split at h
 ·exact run_buildScV S ho hp h
 ·rename_i et e ie hel
  obtain ⟨ht, hie, hsz⟩ := elemT_ok hel
  split at h
  ·exact h.elim
  ·rename_i z hz
   obtain ⟨i', z0, hie', hz0, hzc⟩ := zeroCs_ok (E := E) (g := g) hz
   rw [hie] at hie'
   obtain rfl := Option.some.inj hie'
   obtain ⟨hchk, h⟩ := if_ok h
   rw [Bool.and_eq_true, Bool.and_eq_true] at hchk
   obtain ⟨⟨hc1, hc2⟩, hc3⟩ := hchk
   have hsm : m * ie.size ≤ 16777216 := Nat.le_of_ble_eq_true hc1
   have hzs : z0.cells.size = ie.size := by
    have := hzc.length
    rw [Array.length_toList] at this
    rw [this]; exact Nat.eq_of_beq_eq_true hc3
   have hm0 : m * ie.size = 0 → m = 0 := fun h0 => by
    rcases Nat.mul_eq_zero.1 h0 with h | h
    ·exact h
    ·rw [h] at hc2
     simpa using hc2
   split at h
   ·exact h.elim
   ·rename_i cs hf
    obtain ⟨us', h1, h2⟩ := fillV_ok hf hp (relCs_rep hzc m)
    have hmap : (parts.map fun (i, x) => (i, a.eval x)).toList = parts.toList.map fun q => (q.1, a.eval q.2) := by rw [Array.toList_map]
    have hr : (Instr.buildSlice t m (parts.map fun (i, x) => (i, a.eval x))).run X.P w = .ok (.slice (some ⟨w.heap.size, 0, none⟩) m m) (w.alloc (.cells us'.toArray et)) := by
     by_cases h0 : m * ie.size = 0
     ·obtain rfl := hm0 h0
      have h1' : Instr.fill (fun i => some (i * ie.size, ie.size)) #[] (parts.toList.map fun q => (q.1, a.eval q.2)) = some us'.toArray := h1
      have hz0 : (Array.map (fun (_ : Nat) => (default : Value)) (Array.range 0)) = #[] := by simp
      simp [Instr.buildSlice, run_underlying ht, sizeOf, typeInfo, hie, newRow, hz0, h1']
     ·refine run_buildSlice w t et m _ us'.toArray ie z0 ht hie hz0 (by omega) h0 ?_
      rw [hmap]
      have hpos : 0 < z0.cells.size := by
       rw [hzs]
       rcases Nat.eq_zero_or_pos ie.size with h | h
       ·rw [h] at h0; simp at h0
       ·exact h
      have := rep_array m z0.cells hpos
      rw [hzs] at this
      rw [hzs, this]; exact h1
    have hrun : (execOp a.eval o).run X.P w = .ok (.value (.slice (some ⟨w.heap.size, 0, none⟩) m m)) (w.alloc (.cells us'.toArray et)) := by
     simp only [execOp, ho, Sem.run_bind, hr, Result.andThen_ok]
     rfl
    obtain ⟨g', s', cs', m', S', h3, h⟩ := holdCs_ok S h2 h
    cases hxs : ofAll e m cs' with
    | none => rw [hxs] at h; exact h.elim
    | some xs =>
    rw [hxs] at h
    obtain ⟨css, h4, h5, h6⟩ := ofAll_ok m hxs h3
    have H := S'.sat.sl.new (New.mk' w (.cells us'.toArray et))
    have hml : m ≤ maxLen := by
     unfold maxLen
     rcases Nat.eq_zero_or_pos ie.size with h | h
     ·have := hm0 (by rw [h]; rfl); omega
     ·have := Nat.le_mul_of_pos_right m h; omega
    have H2 := blk_sl H h4 h5 h6 hml
    refine ⟨_, _, hrun, E ++ [.slice (some ⟨w.heap.size, 0, none⟩) m m], g', _, _, EnvLe.app E _, m', S'.new (v := .slice (some ⟨w.heap.size, 0, none⟩) m m) (Mono.refl g') ?_, (show RelV _ g' (.c (.o s'.n)) _ from ⟨at_end S' _, _, _, _, rfl⟩), h⟩
    exact H2.weak fun k ⟨k1, k2, ap, q, s1, s2⟩ => ⟨k1, k2, ap, q, ⟨_, at_end S' _, s1⟩, s2⟩

theorem run_conv_bytes {P : Program} {src dst e : TypeId} {z : ByteArray} (hs : P.underlying src = some .string) (hd : P.underlying dst = some (.slice e)) (he : P.underlying e = some (.int .u8)) (hz : z.size ≤ maxLen) :
  ∃ v w', (convert src dst (.string z)).run P w = .ok v w' ∧ Le w w' ∧ IsD .u8 (graft g w w') v z.data.toList := by
 have hr := run_bytes_of_string (P := P) w src dst e z hs hd he
 generalize hW : w.drew.alloc (.cells (bytesRow z (grownCap w z.size 0 e)) e ((bytesRow z (grownCap w z.size 0 e)).size, (bytesRow z (grownCap w z.size 0 e)).size + 1)) = w1 at hr
 have hle : Le w w1 := by rw [← hW]; exact (Le.drew w).trans (New.mk' w.drew _).le
 refine ⟨_, w1, hr, hle, ?_⟩
 have hlen : z.data.toList.length = z.size := by rw [Array.length_toList]; rfl
 refine (is_list (α := UInt8)).2 (.inr ⟨⟨w.heap.size, 0, none⟩, grownCap w z.size 0 e, by rw [hlen], by rw [hlen]; exact grownCap_ge w z.size 0 e, grownCap_le_maxLen w z.size 0 e (by unfold maxLen at hz ⊢; omega), fun i x hx => ⟨[.int .u8 x.toNat], fun j c hj => ?_, rfl⟩⟩)
 rw [Addr.add_mid, graft_new _ (Nat.le_refl _)]
 match j, hj with
 | 0, hj =>
  obtain rfl : c = .int .u8 x.toNat := by simpa using hj.symm
  have hi : i < z.data.toList.length := (List.getElem?_eq_some_iff.1 hx).1
  have hc : (bytesRow z (grownCap w z.size 0 e))[i]? = some (.int .u8 x.toNat) := by
   unfold bytesRow
   have hi2 : i < z.data.size := by simpa using hi
   rw [Array.getElem?_append_left (by simpa using hi2), Array.getElem?_map]
   have : z.data[i]? = some x := by simpa using hx
   rw [this]; rfl
  simp only [GoRep.size, Nat.mul_one, Nat.add_zero]
  have hh : w1.heap[w.heap.size]? = some (.cells (bytesRow z (grownCap w z.size 0 e)) e ((bytesRow z (grownCap w z.size 0 e)).size, (bytesRow z (grownCap w z.size 0 e)).size + 1)) := by rw [← hW]; exact heap_alloc_new w.drew _
  unfold World.cell?
  simp only [hh]
  rw [Nat.zero_add]
  exact hc
end
section
variable {P : Program} {W : Base} {g w w' : World} {l : List Atom}
theorem SL.hold0R {b : Nat} {cs : Array Value} {t : TypeId} {r : Nat × Nat} (H : SL W g w (obj b (.cells cs t r) :: l)) : ∃ g', Mono g g' ∧ SL W g' w l ∧ (∀ i, g'.cell? ⟨b, i, none⟩ = cs[i]?) := by
 obtain ⟨hW, hw, hn⟩ := H.has0
 obtain ⟨h, be, s, o, h1, h2, ap, rfl, s1, s2⟩ := H
 have hlt : b < w.heap.size := (Array.getElem?_eq_some_iff.1 hw).1
 have m : Mono g (withB g w.heap.size b (.cells cs t r)) := fun a v hv => by
  have hne : a.block ≠ b := fun e => by rw [hn a e] at hv; cases hv
  rw [withB_cell s.size a hne]; exact hv
 have hc : ∀ (i : Nat) (sp), (withB g w.heap.size b (.cells cs t r)).cell? ⟨b, i, sp⟩ = w.cell? ⟨b, i, sp⟩ := fun i sp => by
  unfold World.cell? withB
  rw [hw]
  simp [hlt]
 refine ⟨withB g w.heap.size b (.cells cs t r), m, ⟨h2, be, ⟨⟨by simp [withB], fun a v hv => ?_⟩, fun a ha => ?_⟩, fun k x hx => ?_, s2.mono m⟩, fun i => ?_⟩
 ·by_cases e : a.block = b
  ·have : a = ⟨b, a.off, a.spot⟩ := by cases a; simp_all
   rw [this] at hv ⊢
   rw [hc] at hv; exact hv
  ·rw [withB_cell s.size a e] at hv; exact s.mono a v hv
 ·have hne : a.block ≠ b := fun e => by
   have h1 : W.n ≤ b := hW
   unfold Base.n at h1
   omega
  rw [withB_cell s.size a hne]; exact s.agr a ha
 ·have h1k : h1 k = none := by
   rcases ap k with e | e
   ·exact e
   ·rw [e] at hx; cases hx
  obtain ⟨o1, o2, o3⟩ := o k x (by rw [Hp.join_right h1k]; exact hx)
  refine ⟨o1, o2, fun a ha => ?_⟩
  have hkb : k ≠ b := fun e => by
   subst e
   rw [show h1 k = some _ from s1] at h1k; cases h1k
  rw [withB_cell s.size a (by rw [ha]; exact hkb)]
  exact o3 a ha
 ·rw [hc]
  unfold World.cell?
  rw [hw]
  simp
theorem run_convert_lit {b n c : Nat} {cs : Array Value} {t e : TypeId} (hb : Blk w b cs e) (ht : P.underlying t = some (.slice e)) (he : P.underlying e = some (.int .u8)) :
  ∃ w', (convert t t (.slice (some ⟨b, 0, none⟩) n c)).run P w = .ok (.slice (some ⟨b, 0, none⟩) n c) w' ∧ UpdO w b (.cells cs e (cs.size, cs.size + 1)) w' := by
 have hlt : b < w.heap.size := (Array.getElem?_eq_some_iff.1 hb).1
 have hg : w.heap[b] = .cells cs e (0, 0) := (Array.getElem?_eq_some_iff.1 hb).2
 have hsh : w.shape? b = some (e, cs.size) := by
  unfold World.shape?
  rw [show w.heap[b]? = some (.cells cs e (0, 0)) from hb]
 refine ⟨w.freeze ⟨b, cs.size, none⟩ 1, ?_, ?_, hlt⟩
 ·simp [convert, run_underlying ht, run_underlying he, markStringish, hsh]
 ·unfold World.freeze
  rw [if_neg (by decide)]
  congr 1
  apply Array.ext
  ·simp
  ·intro i h1 h2
   rw [Array.getElem_modify]
   by_cases h : b = i
   ·subst h
    simp [hg]
   ·rw [if_neg h, Array.getElem_setIfInBounds_ne _ h]
end
section
variable {X : Vx} {n : Nat} {W : Base} {F : List Atom} {b : Bs} {E : Env} {g w : World} {s : Ov} {a : Act} {o : Oper}
theorem slHoldR {α : Type} [GoRep α] {P : Program} {W : Base} {g w : World} {l : List Atom} {t e : TypeId} {v : Value} {xs : List α} (H : SL W g w (slA e v xs :: l)) (hx : xs ≠ []) (ht : P.underlying t = some (.slice e)) (he : P.underlying e = some (.int .u8)) :
  ∃ w' g', (convert t t v).run P w = .ok v w' ∧ Mono g g' ∧ SL W g' w' l ∧ Is g' v xs := by
 obtain ⟨cs, r, H1⟩ := H.slO
 rcases H1.ofRow with ⟨rfl, hn, _, H2⟩ | ⟨k, cap, cur, rfl, h1, h2, h3, h4, H2⟩
 ·exact absurd (List.eq_nil_of_length_eq_zero hn) hx
 ·obtain ⟨w', hr, u⟩ := run_convert_lit (n := xs.length) (c := cap) (H2.blk 0) ht he
  obtain ⟨g', m, H3, hc⟩ := (H2.updO 0 u).hold0R
  refine ⟨w', g', hr, m, H3, is_list.2 (.inr ⟨⟨k, 0, none⟩, cap, rfl, h1, h2, fun i x hx => ?_⟩)⟩
  obtain ⟨c, hr2, hcc⟩ := r.get i x hx
  refine ⟨c, fun j v hj => ?_, GoRep.mono m hr2⟩
  rw [Addr.add_mid, hc]
  have h5 := hcc j v hj
  rw [← h4, List.getElem?_take] at h5
  split at h5
  ·simpa using h5
  ·cases h5
theorem run_litV (S : Sta n W F b E g w s a) {src dst e e0 : TypeId} {l : Nat} {x : Operand} {K : SV → Ov → Prop} (ho : o.op = .convert src dst x) (hs : X.P.underlying src = some (.slice e0)) (hd : X.P.underlying dst = some (.slice e)) (r : RelC E g (.o l) (a.eval x)) (h : litV X b s src dst e l K) :
  ∃ v w', (execOp a.eval o).run X.P w = .ok (.value v) w' ∧ Out n W F b E g a K v w' := by
 unfold litV at h
 obtain ⟨hsd, h1⟩ := if_ok h
 clear h
 have hsd := Nat.eq_of_beq_eq_true hsd
 subst hsd
 cases he : X.P.underlying e with
 | none => rw [he] at h1; exact h1.elim
 | some d =>
  rw [he] at h1
  split at h1
  ·rename_i hde
   have hde := Option.some.inj hde
   subst hde
   cases hob : b.obj s l with
   | sl et ety xs =>
    rw [hob] at h1
    simp only at h1
    obtain ⟨het, h2⟩ := if_ok h1
    clear h1
    have het := Nat.eq_of_beq_eq_true het
    subst het
    cases hy : asD .u8 xs with
    | none => rw [hy] at h2; exact h2.elim
    | some ys =>
     rw [hy] at h2
     obtain ⟨q, e1⟩ := asD_some hy
     subst q
     subst e1
     obtain ⟨hx, hk⟩ := h2
     letI := Ty.u8.rep
     obtain ⟨w', g', hr, m, H1, hi⟩ := slHoldR (α := Ty.u8.den) (St_sl S r.1 hob) hx hd he
     exact ⟨_, w', by simp [execOp, ho, hr], E, g', s.setO l .gone, _, EnvLe.refl E, m, S.back r.1 .gone m (H1.weak fun k s2 => ⟨fun _ => none, k, fun _ => .inl rfl, rfl, trivial, s2⟩), (show RelV E g' (.c (.d .u8 _)) _ from hi), hk⟩
   | _ => rw [hob] at h1; exact h1.elim
  ·exact h1.elim
theorem run_convV (S : Sta n W F b E g w s a) {src dst : TypeId} {x : Operand} {c : SV} {K : SV → Ov → Prop} (ho : o.op = .convert src dst x) (r : RelV E g c (a.eval x)) (h : convV X b s src dst c K) :
  ∃ v w', (execOp a.eval o).run X.P w = .ok (.value v) w' ∧ Out n W F b E g a K v w' := by
 have same : ∀ {v : Value} {sv : SV}, (convert src dst (a.eval x)).run X.P w = .ok v w → RelV E g sv v → K sv s → ∃ v w', (execOp a.eval o).run X.P w = .ok (.value v) w' ∧ Out n W F b E g a K v w' := fun {v sv} h1 h2 h3 =>
  ⟨v, w, by simp [execOp, ho, h1], E, g, s, sv, EnvLe.refl E, Mono.refl g, S, h2, h3⟩
 unfold convV at h
 split at h
 ·rename_i k1 k k' m hs hd
  obtain ⟨hx, hm⟩ := relV_int r
  have hr : (convert src dst (a.eval x)).run X.P w = .ok (.int k (k.wrap m)) w := by
   simp [convert, hx, run_underlying hs, run_underlying hd, Conv.intToInt]
  split at h
  ·rename_i hk
   obtain rfl := IntKind.eq_of_beq hk
   rw [wrap_self hm] at hr
   exact same hr (relV_mk hm) h
  ·exact same hr (relV_mk (wrap_inK _ _)) (h (wrap_inK _ _))
 ·rename_i z hs hd
  obtain ⟨hx, hz⟩ := r
  refine same (v := .string z) (sv := .str z) (by simp [convert, hx, run_underlying hs, run_underlying hd]) ⟨rfl, hz⟩ h
 ·rename_i k k1 m hs hd
  obtain ⟨hx, _⟩ := relV_int r
  obtain ⟨hl, h⟩ := h
  refine same (v := .string (Utf8.encode m)) (sv := .str (Utf8.encode m)) ?_ ⟨rfl, hl⟩ h
  simp [convert, hx, run_underlying hs, run_underlying hd, Conv.intToString]
 ·rename_i e z hs hd
  obtain ⟨hx, hz⟩ := r
  split at h
  ·rename_i he
   obtain ⟨v, w', h1, h2, h3⟩ := run_conv_bytes (P := X.P) (g := g) (w := w) hs hd he hz
   have m := graft_mono S.sat.sl.sees h2
   refine ⟨v, w', by simp [execOp, ho, hx, h1], E, graft g w w', s, _, EnvLe.refl E, m, ⟨S.size, S.defers, fun t u hu => (S.fr t u hu).mono (EnvLe.refl E) m, ⟨S.sat.sl.regraft h2, S.sat.len⟩, S.top⟩, (show RelV E _ (.c (.d .u8 z.data.toList)) v from h3), h⟩
  ·exact h.elim
 ·rename_i e y hs hd
  split at h
  ·rename_i he
   split at h
   ·rename_i l hl
    obtain ⟨_, hi⟩ := listOf_rd S r hl
    have hr := run_str_of (l := l) hi hs he hd
    refine same hr (sv := .str (bstr l)) ⟨rfl, ?_⟩ h
    have := isD_len hi
    show (bstr l).size ≤ maxLen
    have e2 : (bstr l).size = l.length := by simp [bstr, ByteArray.size]
    rw [e2]; exact this
   ·exact h.elim
  ·exact h.elim
 ·rename_i hs hd
  exact run_litV S ho hs hd r h
 ·exact h.elim
theorem run_mmV {mn : Bool} {x y : Operand} {t u : TypeId} {c d : SV} {K : SV → Prop} (ho : o.op = .call { callee := .builtin (if mn then .min else .max), args := #[x, y], argTypes := #[t, u] }) (rx : RelV E g c (a.eval x)) (ry : RelV E g d (a.eval y)) (h : mmV mn c d K) : ER X.P o a w E g K := by
 unfold mmV at h
 split at h
 ·rename_i k m k' m'
  obtain ⟨hx, h1⟩ := relV_int rx
  obtain ⟨hy, h2⟩ := relV_int ry
  obtain ⟨hk, h0⟩ := if_ok h
  obtain rfl := IntKind.eq_of_beq hk
  have h3 : ∀ q, q = m ∨ q = m' → inK k q := fun q hq => by rcases hq with rfl | rfl <;> assumption
  cases mn
  ·exact ⟨_, _, X_max ho hx hy, relV_mk (h3 _ (by omega)), h0⟩
  ·exact ⟨_, _, X_min ho hx hy, relV_mk (h3 _ (by omega)), h0⟩
 ·exact h.elim
end
end Go.Lm

namespace Go.Lm
open Go Go.RowKit
section
variable {X : Vx} {n : Nat} {W : Base} {F F' : List Atom} {b : Bs} {E : Env} {g g' w w' : World} {s : Ov} {a : Act} {o : Oper}
theorem dropA_app : ∀ {A B : List Atom} {l : Nat}, l < A.length → dropA (A ++ B) l = dropA A l ++ B
 | _ :: _, _, 0, _ => rfl
 | x :: A, B, l + 1, h => by
  show x :: dropA (A ++ B) l = x :: (dropA A l ++ B)
  rw [dropA_app (by simpa using h)]
theorem Sta.weakF (S : Sta n W F b E g w s a) (k : ∀ h, sats g F h → sats g F' h) : Sta n W F' b E g w s a := by
 refine ⟨S.size, S.defers, S.fr, ⟨S.sat.sl.weak fun h x => ?_, S.sat.len⟩, S.top⟩
 have key : ∀ {A : List Atom} {h : Hp}, sats g (A ++ F) h → sats g (A ++ F') h := by
  intro A
  induction A with
  | nil => exact fun x => k _ x
  | cons a A ih => exact fun ⟨h1, h2, ap, e, s1, s2⟩ => ⟨h1, h2, ap, e, s1, ih s2⟩
 exact key x
theorem heap_drop (S : Sta n W F b E g w s a) {l : Nat} {v : Value} (h : E[l]? = some v) : l < (atomsO E 0 (b.heap s)).length := by
 rw [atomsO_length, heap_len]; exact S.lt h
theorem Sta.give (S : Sta n W F b E g w s a) {l : Nat} {v : Value} (h : E[l]? = some v) {A : Atom} (m : Mono g g') (H : SL W g' w' (A :: dropA (atomsO E 0 (b.heap s) ++ F) l)) : Sta n W (A :: F) b E g' w' (s.setO l .gone) a := by
 have hl := S.lt h
 refine ⟨S.size, S.defers, fun t v hv => (S.fr t v hv).mono (EnvLe.refl E) m, ⟨?_, by rw [S.len, heap_len]; rfl⟩, fun k hk => ?_⟩
 ·rw [heap_setO hl]
  refine H.weak fun k s1 => ?_
  rw [dropA_app (heap_drop S h)] at s1
  have s2 := sats.toEnd s1
  have hn : nthA (atomsO E 0 (b.heap s) ++ (A :: F)) l = some (atomO E l (b.obj s l)) := by
   have := nthA_atoms (E := E) (F := A :: F) (k := 0) (heap_get (b := b) hl)
   rwa [Nat.zero_add] at this
  have s3 : sats g' (pureA True :: dropA (atomsO E 0 (b.heap s) ++ (A :: F)) l) k := by
   rw [dropA_app (heap_drop S h)]
   exact ⟨fun _ => none, k, fun _ => .inl rfl, rfl, trivial, s2⟩
  have h3 := setA_atoms (E := E) (F := A :: F) (k := 0) (o' := .gone) (l := l) (H := b.heap s) (by rw [heap_len]; exact hl)
  rw [Nat.zero_add] at h3
  rw [← h3]
  exact sats.unpick hn s3
 ·rw [obj_setO, if_neg (by have : s.n ≤ k := hk; omega)]
  exact S.top k hk
theorem Sta.take2 {A : Atom} (S : Sta n W (A :: F) b E g w s a) {l : Nat} {v : Value} (h : E[l]? = some v) : SL W g w (A :: atomO E l (b.obj s l) :: dropA (atomsO E 0 (b.heap s) ++ F) l) := by
 refine (S.pick h).weak fun k s1 => ?_
 rw [dropA_app (heap_drop S h)] at s1 ⊢
 obtain ⟨h1, h2, ap, e, s2, s3⟩ := s1
 have s4 := sats.ofEnd s3
 exact sats.swap ⟨h1, h2, ap, e, s2, s4⟩
theorem Sta.back2 {A : Atom} (S : Sta n W (A :: F) b E g w s a) {l : Nat} {v : Value} (h : E[l]? = some v) (o' : HO) (m : Mono g g') (H : SL W g' w' (atomO E l o' :: dropA (atomsO E 0 (b.heap s) ++ F) l)) : Sta n W F b E g' w' (s.setO l o') a := by
 have hl := S.lt h
 refine ⟨S.size, S.defers, fun t v hv => (S.fr t v hv).mono (EnvLe.refl E) m, ?_, fun k hk => ?_⟩
 ·rw [heap_setO hl]
  exact Sat.back (o := b.obj s l) o' S.sat.len (heap_get hl) H
 ·rw [obj_setO, if_neg (by have : s.n ≤ k := hk; omega)]
  exact S.top k hk
theorem mapVs_int {k : Kk} : ∀ {l : List (k.den × Value)} {xs : List (k.den × Int)}, MapVs g k (.int .i64) l xs → l = xs.map (fun p => (p.1, Value.int .i64 p.2)) ∧ ∀ p ∈ xs, inK .i64 p.2
 | [], xs, h => by rw [show xs = [] from h]; exact ⟨rfl, fun _ h => by cases h⟩
 | p :: l, xs, ⟨x, r, q, h1, h2⟩ => by
  subst q
  obtain ⟨e1, e2⟩ := mapVs_int h2
  obtain ⟨cs, ⟨hc, hw⟩, hv⟩ := h1
  have hv : cs = [p.2] := hv
  rw [hv] at hc
  have hp : p.2 = .int .i64 x := (List.cons.inj hc).1
  refine ⟨?_, fun q hq => ?_⟩
  ·rw [e1]
   show p :: _ = (p.1, Value.int .i64 x) :: _
   rw [← hp]
  ·rcases List.mem_cons.1 hq with rfl | hq
   ·exact inK_wf.2 hw
   ·exact e2 q hq
theorem asM_cast {k' : Kk} {e' : Ty} {k : Kk} {e : Ty} {x : List (k'.den × e'.den)} {y : List (k.den × e.den)} (h : asM k e x = some y) : ∃ (p : k' = k) (q : e' = e), y = castM p q x := asM_some h
theorem newNode_ok {P : Program} (S : Sta n W F b E g w s a) {T : UTy} {u : S1} {k : LNode → Ov → Prop} {val : Value} (hk : kk2 P T) (r : RelS E g u val) (h : newNode T b s u k) :
  ∃ g' s' nd, Mono g g' ∧ val = ptr nd.blk 0 ∧ NodeIn nd ∧ k nd s' ∧ Sta n W (nodeA P T nd :: F) b E g' w s' a := by
 unfold newNode at h
 split at h
 ·rename_i l0
  obtain ⟨bb, hE, hval⟩ := (show RelC E g (.p l0 0) val from r)
  split at h
  ·rename_i t cs hob
   have hQ := if_ok h
   clear h
   obtain ⟨ht, h⟩ := hQ
   obtain rfl := Nat.eq_of_beq_eq_true ht
   split at h
   ·rename_i kd mo ui gi cd tg cx op ci up lk
    obtain ⟨us, hrel, _, H⟩ := St_cells S hE hob
    obtain ⟨_, u1, rfl, ⟨rfl, _⟩, _, u2, rfl, ⟨rfl, _⟩, _, u3, rfl, ⟨rfl, ikd⟩, _, u4, rfl, ⟨rfl, imo⟩, _, u5, rfl, ⟨rfl, iui⟩, _, u6, rfl, ⟨rfl, igi⟩, vd, u7, rfl, rd, _, u8, rfl, ⟨rfl, itg⟩, vx, u9, rfl, rx, _, u10, rfl, ⟨rfl, _⟩, vi, u11, rfl, ri, _, u12, rfl, ⟨rfl, iup⟩, _, u13, rfl, ⟨rfl, ilk⟩, hnil⟩ := hrel
    obtain rfl : u13 = [] := hnil
    have S1 := S.give hE (Mono.refl g) H
    have rc : RelCs E g [cd, cx] [vd, vx] := ⟨_, _, rfl, rd, _, _, rfl, rx, rfl⟩
    obtain ⟨g2, s2, cs2, m2, S2, rc2, h2⟩ := holdCs_ok S1 rc h
    split at h2
    ·rename_i cd' cx'
     obtain ⟨_, _, e1, rd2, _, _, e2, rx2, e3⟩ := rc2
     obtain ⟨rfl, rfl⟩ := List.cons.inj e1
     obtain ⟨rfl, rfl⟩ := List.cons.inj e2
     split at h2
     ·rename_i d x hd hx
      have rdl : RelCs E g2 [cd'] [vd] := ⟨_, _, rfl, rd2, rfl⟩
      have rxl : RelCs E g2 [cx'] [vx] := ⟨_, _, rfl, rx2, rfl⟩
      have hdv : Is g2 vd d := by
       obtain ⟨v1, v2, e4, h5, h6⟩ := of_cells (.sl .u8) hd rdl
       obtain rfl : v2 = [] := h6
       rw [List.append_nil] at e4
       subst e4
       obtain ⟨u', q', e5, h7, h8⟩ := (rel_cells E g2 (.sl .u8) h5).1
       obtain ⟨rfl, _⟩ := List.cons.inj e5
       exact h7
      have hxv : Is g2 vx (x.map xaO) := by
       obtain ⟨v1, v2, e4, h5, h6⟩ := of_cells (.sl xaTy) hx rxl
       obtain rfl : v2 = [] := h6
       rw [List.append_nil] at e4
       subst e4
       obtain ⟨u', q', e5, h7, h8⟩ := (rel_cells E g2 (.sl xaTy) h5).1
       obtain ⟨rfl, _⟩ := List.cons.inj e5
       exact isD_xo h7
      split at h2
      ·obtain ⟨rfl, _⟩ := ri
       obtain ⟨hkd, h3⟩ := h2
       refine ⟨g2, s2, _, m2, hval, ?_, h3 bb vd vx, S2.weakF fun hh s3 => ?_⟩
       ·exact ⟨ikd, imo, iui, igi, iup, ilk, fun p hp => by cases hp⟩
       ·obtain ⟨k1, k2, ap, e, sb, sf⟩ := s3
        refine ⟨k1, k2, ap, e, ?_, sf⟩
        have nn : Hp := fun _ => none
        refine ⟨fun _ => none, k1, fun _ => .inl rfl, rfl, hdv, fun _ => none, k1, fun _ => .inl rfl, rfl, hxv, fun _ => none, k1, fun _ => .inl rfl, rfl, ⟨itg, fun hk1 => absurd hk1 hkd⟩, k1, fun _ => none, fun _ => .inr rfl, ?_, sb, fun _ => none, fun _ => none, fun _ => .inl rfl, rfl, .inl ⟨rfl, rfl⟩, trivial⟩
        funext z; unfold Hp.join; cases k1 z <;> rfl
      ·rename_i lm
       split at h2
       ·rename_i kt e ents hob2
        have hQ := if_ok h2
        clear h2
        obtain ⟨hkt, h3⟩ := hQ
        obtain rfl := Nat.eq_of_beq_eq_true hkt
        split at h3
        ·rename_i es hes
         obtain ⟨ib, hEm, hvi⟩ := (show RelC E g (.m lm) vi from ri)
         obtain ⟨p1, p2, he⟩ := asM_cast hes
         subst p2
         have he : es = ents := he
         subst he
         obtain ⟨m, hmv, Hm⟩ := St_map (k := .str) S2 hEm hob2 (P := P) (by simp [kkOk, hk.2])
         obtain ⟨e1, e2⟩ := mapVs_int hmv
         have S3 := S2.give hEm (Mono.refl g2) Hm
         subst hvi
         refine ⟨g2, _, _, m2, hval, ?_, h3 bb vd vx ib, S3.weakF fun hh s3 => ?_⟩
         ·exact ⟨ikd, imo, iui, igi, iup, ilk, e2⟩
         ·obtain ⟨k1, k2, ap, e, ⟨me, mc, sm1, sm2⟩, k3, k4, ap2, q2, sb, sf⟩ := s3
          subst q2
          have a2 := Hp.apart_join.1 ap
          refine ⟨k1.join k3, k4, ?_, by rw [e, Hp.join_assoc], ?_, sf⟩
          ·exact (Hp.apart_join.2 ⟨a2.2.symm, ap2.symm⟩).symm
          ·refine ⟨fun _ => none, _, fun _ => .inl rfl, rfl, hdv, fun _ => none, _, fun _ => .inl rfl, rfl, hxv, fun _ => none, _, fun _ => .inl rfl, rfl, ⟨itg, fun _ => ⟨ib, rfl⟩⟩, k3, k1, a2.1.symm, Hp.join_comm a2.1, sb, k1, fun _ => none, fun _ => .inr rfl, ?_, .inr ⟨ib, me, mc, rfl, sm1, ?_⟩, trivial⟩
           ·funext z; unfold Hp.join; cases k1 z <;> rfl
           ·have e3 : m = entsV es := e1
            rw [← e3]; exact sm2
        ·exact h3.elim
       ·exact h2.elim
      ·exact h2.elim
     ·exact h2.elim
    ·exact h2.elim
   ·exact h.elim
  ·exact h.elim
 ·exact h.elim
end
end Go.Lm

namespace Go.Lm
open Go Go.RowKit
section
variable {X : Vx} {n : Nat} {W : Base} {F : List Atom} {b : Bs} {E : Env} {g w : World} {s : Ov} {a : Act} {o : Oper}
theorem kkOk_ok {P : Program} {t : TypeId} {k : Kk} (h : kkOk P t k = true) : @KeyT P t k.den k.key := by
 unfold kkOk at h
 split at h
 ·rename_i hu; exact keyT_int hu
 ·rename_i hu; exact keyT_str hu
 ·cases h
theorem kkOf_ok {P : Program} {t : TypeId} {k : Kk} (h : kkOf P t = some k) : kkOk P t k = true := by
 unfold kkOf at h
 unfold kkOk
 split at h
 ·rename_i hu; cases h; rw [hu]
 ·rename_i hu; cases h; rw [hu]
 ·cases h
theorem keyOfCl_ok : ∀ {k : Kk} {c : Cl} {x : k.den} {u : Value}, keyOfCl k c = some x → RelC E g c u → u = @MKey.val k.den k.key x ∧ @MKey.ok k.den k.key x
 | .int, c, x, u, h, r => by
  dsimp only [keyOfCl] at h
  split at h
  ·cases h
   obtain ⟨rfl, h2⟩ := r
   exact ⟨rfl, inK_wf.1 h2⟩
  ·cases h
 | .str, c, x, u, h, r => by
  dsimp only [keyOfCl] at h
  split at h
  ·cases h
   obtain ⟨rfl, h2⟩ := r
   exact ⟨rfl, h2⟩
  ·cases h
theorem s1In_ok {e : Ty} {v : S1} {x : e.den} {u : Value} (h : s1In e v = true) (hu : RelCs E g v.cells u.cells.toList) (r : RelS E g v u) {cs : List Cl} (hcs : RelCs E g cs u.cells.toList) (ho : e.of cs = some (x, [])) : IsV g e u x := by
 obtain ⟨u1, u2, e1, h1, h2⟩ := of_cells e ho hcs
 obtain rfl : u2 = [] := h2
 rw [List.append_nil] at e1
 subst e1
 cases v with
 | agg l =>
  have h : e.row = true := h
  obtain ⟨us, _, rfl⟩ := r
  refine ⟨_, h1, ?_⟩
  rw [if_pos h]; rfl
 | c c =>
  have h : (!e.row) = true := h
  have hr : RelC E g c u := r
  refine ⟨_, h1, ?_⟩
  rw [if_neg (by simpa using h), one_cells hr.one]
theorem s1Of_ok {e : Ty} {x : e.den} {r : S1} {u : Value} (h : s1Of e x = some r) (hv : IsV g e u x) : RelS E g r u ∧ e.ok x := by
 obtain ⟨cs, h1, h2⟩ := hv
 obtain ⟨h3, h4⟩ := rel_cells E g e h1
 refine ⟨?_, h4⟩
 unfold s1Of at h
 split at h
 ·rename_i hr
  rw [if_pos hr] at h2
  cases h
  exact ⟨cs, h3, h2⟩
 ·rename_i hr
  rw [if_neg hr] at h2
  split at h
  ·rename_i c hc
   cases h
   rw [hc, h2] at h3
   obtain ⟨u', r', e1, h5, h6⟩ := h3
   obtain rfl : u = u' := by simpa using (List.cons.inj e1).1
   exact h5
  ·cases h
theorem dflV_ok {P : Program} {t : TypeId} {e : Ty} {x : e.den} (h : dflV P t e = some x) : ∃ z, (zeroValue t).run P w = .ok z w ∧ IsV g e z x := by
 unfold dflV at h
 split at h
 ·rename_i i hi
  split at h
  ·rename_i z hz
   split at h
   ·rename_i hzo
    split at h
    ·rename_i zl hzl
     split at h
     ·rename_i y hy
      cases h
      have hc : RelCs ([] : Env) g zl z.cells.toList := constCs_ok hzl
      obtain ⟨u1, u2, e1, h1, h2⟩ := of_cells e hy hc
      obtain rfl : u2 = [] := h2
      rw [List.append_nil] at e1
      refine ⟨z, ?_, u1, h1, ?_⟩
      ·simp [zeroValue, typeInfo, hi, hz, go_sem]
      ·unfold zOk at hzo
       split at hzo
       ·rename_i cs
        rw [if_pos hzo, ← e1]
        show Value.agg cs = .agg cs.toList.toArray
        simp
       ·simp only [Bool.and_eq_true, Bool.not_eq_true'] at hzo
        rw [if_neg (by rw [hzo.1]; simp), ← e1, one_cells hzo.2]
     ·cases h
    ·cases h
   ·cases h
  ·cases h
 ·cases h
theorem mapVs_find {k : Kk} {e : Ty} (x : k.den) : ∀ {l : List (k.den × Value)} {xs : List (k.den × e.den)}, MapVs g k e l xs → match @getK k.den k.key _ l x, k.get xs x with
  | some u, some y => IsV g e u y
  | none, none => True
  | _, _ => False
 | [], xs, h => by
  rw [show xs = [] from h]
  trivial
 | p :: l, xs, ⟨y, r, q, h1, h2⟩ => by
  letI := k.key
  subst q
  have ih := mapVs_find x h2
  have e1 : @getK k.den k.key _ (p :: l) x = if p.1 = x then some p.2 else @getK k.den k.key _ l x := by
   unfold getK
   rw [List.find?_cons]
   by_cases e : p.1 = x <;> simp [e]
  have e2 : k.get ((p.1, y) :: r) x = if p.1 = x then some y else k.get r x := by
   unfold Kk.get getK
   rw [List.find?_cons]
   by_cases e : p.1 = x <;> simp [e]
  rw [e1, e2]
  by_cases e : p.1 = x
  ·rw [if_pos e, if_pos e]; exact h1
  ·rw [if_neg e, if_neg e]; exact ih
theorem mapVs_del {k : Kk} {e : Ty} (x : k.den) : ∀ {l : List (k.den × Value)} {xs : List (k.den × e.den)}, MapVs g k e l xs → MapVs g k e (@delK k.den k.key _ l x) (k.del xs x)
 | [], xs, h => by
  rw [show xs = [] from h]; rfl
 | p :: l, xs, ⟨y, r, q, h1, h2⟩ => by
  letI := k.key
  subst q
  have ih := mapVs_del x h2
  unfold Kk.del delK at ih ⊢
  rw [List.filter_cons, List.filter_cons]
  by_cases e : p.1 = x
  ·simp only [e, decide_true, Bool.not_true, Bool.false_eq_true, if_false]
   exact ih
  ·simp only [e, decide_false, Bool.not_false, if_true]
   exact ⟨y, _, rfl, h1, ih⟩
theorem run_ifaceV {t : TypeId} {x : Operand} {c : Cl} {K : SV → Prop} (ho : o.op = .makeInterface t x) (rx : RelC E g c (a.eval x)) (h : ifaceV X.P t c K) : ER X.P o a w E g K := by
 unfold ifaceV at h
 split at h
 ·exact h.elim
 ·rename_i d hne hd
  refine ⟨.iface t (a.eval x), .c (.ifc t c), ?_, ⟨a.eval x, rx, rfl⟩, h⟩
  have : (Instr.makeInterface t (a.eval x)).run X.P w = .ok (.iface t (a.eval x)) w := by
   cases d <;> first | (exact (hne _ rfl).elim) | simp [Instr.makeInterface, run_underlying hd]
  simp [execOp, ho, this]
 ·exact h.elim
theorem zeroV_ok {t : TypeId} {z : SV} (h : zeroV X.P t = some z) : ∃ v, (zeroValue t).run X.P w = .ok v w ∧ RelV E g z v := by
 unfold zeroV at h
 split at h
 ·rename_i i hi
  split at h
  ·rename_i z0 hz
   exact ⟨z0, by simp [zeroValue, typeInfo, hi, hz, go_sem], constV_ok h⟩
  ·cases h
 ·cases h
theorem run_assertV {t t0 : TypeId} {x : Operand} {c : Cl} {K : SV → Prop} (ho : o.op = .typeAssert x t0 t true) (rx : RelC E g c (a.eval x)) (h : assertV X.P t c K) : ER X.P o a w E g K := by
 unfold assertV at h
 split at h
 ·exact h.elim
 ·rename_i d hne hd
  have two : ∀ {z : S1} {v : Value} {q : Bool}, RelS E g z v → RelV E g (.tup [z, .c (.k (.bool q))]) (.tuple #[v, .bool q]) := fun {z v q} r => ⟨[v, .bool q], ⟨_, _, rfl, r, _, [], rfl, ⟨rfl, rfl⟩, rfl⟩, rfl⟩
  split at h
  ·rename_i t' c'
   obtain ⟨v, h1, h2⟩ := rx
   split at h
   ·rename_i ht
    obtain rfl := Nat.eq_of_beq_eq_true ht
    refine ⟨.tuple #[v, .bool true], _, ?_, two (z := .c c') h1, h⟩
    have : (Instr.typeAssert (.iface t' v) t0 t' true).run X.P w = .ok (.tuple #[v, .bool true]) w := by
     cases d <;> first | (exact (hne _ rfl).elim) | simp [Instr.typeAssert, run_underlying hd]
    simp [execOp, ho, h2, this]
   ·rename_i ht
    have hne' : ¬ t' = t := fun e => ht (by subst e; simp)
    split at h
    ·rename_i z hz
     obtain ⟨u, hu, hr⟩ := zeroV_ok (w := w) (E := E) (g := g) hz
     refine ⟨.tuple #[u, .bool false], _, ?_, two hr, h⟩
     have : (Instr.typeAssert (.iface t' v) t0 t true).run X.P w = .ok (.tuple #[u, .bool false]) w := by
      cases d <;> first | (exact (hne _ rfl).elim) | simp [Instr.typeAssert, run_underlying hd, hne', hu]
     simp [execOp, ho, h2, this]
    ·exact h.elim
  ·obtain ⟨hx, _⟩ := rx
   split at h
   ·rename_i z hz
    obtain ⟨u, hu, hr⟩ := zeroV_ok (w := w) (E := E) (g := g) hz
    refine ⟨.tuple #[u, .bool false], _, ?_, two hr, h⟩
    have : (Instr.typeAssert .nilIface t0 t true).run X.P w = .ok (.tuple #[u, .bool false]) w := by
     cases d <;> first | (exact (hne _ rfl).elim) | simp [Instr.typeAssert, run_underlying hd, hu]
    simp [execOp, ho, hx, this]
   ·exact h.elim
  ·exact h.elim
 ·exact h.elim
theorem run_makeMapV (S : Sta n W F b E g w s a) {t : TypeId} {K : SV → Ov → Prop} (ho : o.op = .makeMap t none) (h : makeMapV X s t K) : ∃ v w', (execOp a.eval o).run X.P w = .ok (.value v) w' ∧ Out n W F b E g a K v w' := by
 unfold makeMapV at h
 split at h
 ·rename_i k et ht
  split at h
  ·rename_i kk e hk he
   letI := kk.key
   refine ⟨_, _, X_makeMap ho, _, g, _, _, EnvLe.app E [ptr w.heap.size 0], Mono.refl g, S.new (v := ptr w.heap.size 0) (Mono.refl g) ?_, (show RelV _ g (.c (.m s.n)) _ from ⟨w.heap.size, at_end S _, rfl⟩), h⟩
   have H := S.sat.sl.mapNew (P := X.P) (k := k) (κ := kk.den) (New.mk' w (.map #[] 0))
   exact H.weak fun q ⟨k1, k2, ap, q2, s1, s2⟩ => ⟨k1, k2, ap, q2, ⟨w.heap.size, [], at_end S _, rfl, X.P, kkOf_ok hk, s1⟩, s2⟩
  ·split at h
   ·rename_i T _
    have hQ := if_ok h
    clear h
    obtain ⟨hk, h⟩ := hQ
    rw [Bool.and_eq_true] at hk
    obtain rfl := Nat.eq_of_beq_eq_true hk.1
    refine ⟨_, _, X_makeMap ho, _, g, _, _, EnvLe.app E [ptr w.heap.size 0], Mono.refl g, S.new (v := ptr w.heap.size 0) (Mono.refl g) ?_, (show RelV _ g (.c (.kl s.n (.map (some w.heap.size)))) _ from ⟨⟨_, at_end S _⟩, rfl, rfl⟩), h w.heap.size⟩
    have H := S.sat.sl.mapNew (P := X.P) (k := T.kI) (κ := Int) (New.mk' w (.map #[] 0))
    exact H.weak fun q ⟨k1, k2, ap, q2, s1, s2⟩ => ⟨k1, k2, ap, q2, ⟨_, at_end S _, X.P, fun _ => none, k1, fun _ => .inl rfl, rfl, ⟨kk2_ok.2 hk.2, fun r n h => by cases h⟩, k1, fun _ => none, fun _ => .inr rfl, by funext z; unfold Hp.join; cases k1 z <;> rfl, s1, trivial⟩, s2⟩
   ·exact h.elim
 ·exact h.elim
theorem nilZero_ok {t : TypeId} (h : nilZero X.P t = true) : (zeroValue t).run X.P w = .ok (.pointer none) w := by
 unfold nilZero at h
 split at h
 ·rename_i i hi
  split at h
  ·rename_i hz
   simp [zeroValue, typeInfo, hi, hz, go_sem]
  ·cases h
 ·cases h
theorem intZero_ok {t : TypeId} (h : intZero X.P t = true) : (zeroValue t).run X.P w = .ok (.int .i64 0) w := by
 unfold intZero at h
 split at h
 ·rename_i i hi
  split at h
  ·rename_i hz
   simp [zeroValue, typeInfo, hi, hz, go_sem]
  ·cases h
 ·cases h
theorem okV2_ok {c q : Bool} {x : Cl} {v : Value} (h : RelC E g x v) : RelV E g (okV2 c x q) (if c then .tuple #[v, .bool q] else v) := by
 cases c with
 | true => exact ⟨[_, _], ⟨_, _, rfl, h, _, [], rfl, (show RelS E g (.c (.k (.bool q))) _ from ⟨rfl, rfl⟩), rfl⟩, rfl⟩
 | false => exact h
theorem upLook_core {T : UTy} {u mb : Nat} {q1 q2 nx : Int} {L : List (Int × LNode)} (R : UpR X.P T g w u q1 q2 mb nx L) (hin : UpIn q1 q2 nx L) {t k et : TypeId} {x y : Operand} {c : Bool} {l : Nat} {v xv : Value} {ky : Cl} {K : SV → Prop} (ho : o.op = .lookup t x y c) (ht : X.P.underlying t = some (.map k et)) (hE : E[l]? = some xv) (hx : a.eval x = v) (ry : RelC E g ky (a.eval y)) (hk : (kkOk X.P T.kI .int && kkOk X.P T.kS .str) = true)
  (h : upLookB X T mb L k et l v ky c K) : ER X.P o a w E g K := by
  unfold upLookB at h
  rw [Bool.and_eq_true] at hk
  have KI := keyT_int (kk_under hk.1)
  have KS := keyT_str (kk_under hk.2)
  split at h
  ·rename_i hkI
   obtain rfl := Nat.eq_of_beq_eq_true hkI
   have hQ := if_ok h
   clear h
   obtain ⟨hz, h⟩ := hQ
   split at h
   ·rename_i r
    obtain ⟨hy, hr⟩ := ry
    obtain ⟨hv, h1, h2⟩ := h
    subst hv
    have hl := R.map.look c KI ht (nilZero_ok hz) r (inK_wf.1 hr)
    rw [getK_ptrs] at hl
    cases hg : getK L r with
    | none =>
     rw [hg] at hl
     exact ⟨_, _, X_lookup ho hx hy hl, okV2_ok (x := .k (.pointer none)) (q := false) (v := .pointer none) ⟨rfl, rfl⟩, h1 hg⟩
    | some m =>
     rw [hg] at hl
     exact ⟨_, _, X_lookup ho hx hy hl, okV2_ok (x := .kl l (.pointer (some ⟨m.blk, 0, none⟩))) (q := true) (v := ptr m.blk 0) ⟨⟨xv, hE⟩, rfl, rfl⟩, h2 m hg (node_ok (R.nodes r m hg) (hin.nodes r m hg))⟩
   ·exact h.elim
  ·have hQ := if_ok h
   clear h
   obtain ⟨hkS, h⟩ := hQ
   rw [Bool.and_eq_true] at hkS
   obtain rfl := Nat.eq_of_beq_eq_true hkS.1
   split at h
   ·rename_i z
    obtain ⟨hy, hr⟩ := ry
    obtain ⟨r, m, hg, hv, h1, h2⟩ := h
    subst hv
    have hn := R.nodes r m hg
    have hl := hn.ents.look c KS ht (intZero_ok hkS.2) z hr
    rw [getK_ents] at hl
    cases he : getK m.ents z with
    | none =>
     rw [he] at hl
     exact ⟨_, _, X_lookup ho hx hy hl, okV2_ok (x := .k (.int .i64 0)) (q := false) (v := .int .i64 0) ⟨rfl, by show (-9223372036854775808 : Int) ≤ 0 ∧ (0 : Int) ≤ 9223372036854775807; decide⟩, h1 he⟩
    | some q =>
     rw [he] at hl
     have hq : inK .i64 q := (hin.nodes r m hg).ents _ (getK_mem he)
     exact ⟨_, _, X_lookup ho hx hy hl, okV2_ok (x := .k (.int .i64 q)) (q := true) (v := .int .i64 q) ⟨rfl, hq⟩, h2 q he hq⟩
   ·exact h.elim
theorem run_upLook (S : Sta n W F b E g w s a) {t k et : TypeId} {x y : Operand} {c : Bool} {l : Nat} {v : Value} {ky : Cl} {K : SV → Prop} (ho : o.op = .lookup t x y c) (ht : X.P.underlying t = some (.map k et)) (rx : RelC E g (.kl l v) (a.eval x)) (ry : RelC E g ky (a.eval y)) (h : upLookV X b s k et l v ky c K) : ER X.P o a w E g K := by
 obtain ⟨⟨xv, hE⟩, hx, _⟩ := rx
 unfold upLookV at h
 split at h
 ·rename_i hob
  have h9 := if_ok h
  obtain ⟨u, _, hin, H⟩ := St_up S hE hob h9.1
  exact upLook_core (H.upR0 (keyT_int (kk2_ok.2 h9.1).1)) hin ho ht hE hx ry h9.1 h9.2
 ·rename_i hob
  have h9 := if_ok h
  obtain ⟨u, _, hin, H⟩ := St_fzS S hE hob h9.1
  exact upLook_core (H.fzR (kk2_ok.2 h9.1)).1 hin ho ht hE hx ry h9.1 h9.2
 ·exact h.elim
theorem run_lookupV (S : Sta n W F b E g w s a) {t : TypeId} {x y : Operand} {c : Bool} {mx ky : Cl} {K : SV → Prop} (ho : o.op = .lookup t x y c) (rx : RelC E g mx (a.eval x)) (ry : RelC E g ky (a.eval y)) (h : lookupV X b s t mx ky c K) : ER X.P o a w E g K := by
 unfold lookupV at h
 split at h
 ·rename_i k et ht
  split at h
  ·rename_i l
   obtain ⟨bb, hE, hx⟩ := rx
   split at h
   ·rename_i k' kk e xs hob
    obtain ⟨hk, h5⟩ := if_ok h
    rw [Bool.and_eq_true] at hk
    obtain ⟨hk1, hk2⟩ := hk
    obtain rfl := Nat.eq_of_beq_eq_true hk1
    split at h5
    ·rename_i z q hz hq
     have h6 := h5
     split at h6
     ·rename_i r hr
      obtain ⟨m, h1, H⟩ := St_map S hE hob hk2
      letI := kk.key
      obtain ⟨hy, hok⟩ := keyOfCl_ok hq ry
      obtain ⟨zv, hzr, hzi⟩ := dflV_ok (w := w) (g := g) hz
      have hl := H.mapLook c (kkOk_ok hk2) ht hzr q hok
      have hf := mapVs_find (e := e) q h1
      have hv : IsV g e ((getK m q).getD zv) ((kk.get xs q).getD z) ∧ (getK m q).isSome = (kk.get xs q).isSome := by
       revert hf
       cases getK m q <;> cases kk.get xs q <;> intro hf
       ·exact ⟨hzi, rfl⟩
       ·exact hf.elim
       ·exact hf.elim
       ·exact ⟨hf, rfl⟩
      obtain ⟨h2, h3⟩ := s1Of_ok (E := E) hr hv.1
      have hK := h6 h3
      refine ⟨_, _, X_lookup ho hx hy hl, ?_, hK⟩
      cases c with
      | true =>
       refine ⟨[_, _], ⟨_, _, rfl, h2, _, [], rfl, ?_, rfl⟩, rfl⟩
       rw [hv.2]
       exact (show RelS E g (.c (.k (.bool _))) _ from ⟨rfl, rfl⟩)
      | false => exact h2
     ·exact h6.elim
    ·exact h5.elim
   ·exact h.elim
  ·exact run_upLook S ho ht rx ry h
  ·exact h.elim
 ·exact h.elim
theorem ents_in {m : LNode} (I : NodeIn m) {z : ByteArray} {x : Int} (hx : inK .i64 x) : NodeIn { m with ents := putK m.ents z x } := ⟨I.kind, I.mode, I.uid, I.gid, I.up, I.links, fun p hp => by
 have hp : p ∈ putK m.ents z x := hp
 unfold putK at hp
 rcases List.mem_cons.1 hp with rfl | hp
 ·exact hx
 ·exact I.ents p ((List.mem_filter.1 hp).1)⟩
theorem ents_del {m : LNode} (I : NodeIn m) {z : ByteArray} : NodeIn { m with ents := delK m.ents z } := ⟨I.kind, I.mode, I.uid, I.gid, I.up, I.links, fun p hp => I.ents p ((List.mem_filter.1 hp).1)⟩
theorem run_upPut (S : Sta n W F b E g w s a) {t k et : TypeId} {x y z : Operand} {l : Nat} {v : Value} {ky : Cl} {u : S1} {K : Ov → Prop} (ho : o.op = .mapUpdate t x y z) (ht : X.P.underlying t = some (.map k et)) (rx : RelC E g (.kl l v) (a.eval x)) (ry : RelC E g ky (a.eval y)) (rz : RelS E g u (a.eval z)) (h : upPutV X b s k l v ky u K) :
  ∃ w', (execOp a.eval o).run X.P w = .ok .skip w' ∧ ∃ g' s', Mono g g' ∧ Sta n W F b E g' w' s' a ∧ K s' := by
 obtain ⟨⟨xv, hE⟩, hx, _⟩ := rx
 unfold upPutV at h
 split at h
 ·rename_i T q1 q2 mb nx L hob
  have hQ := if_ok h
  clear h
  obtain ⟨hk, h⟩ := hQ
  simp only [Bool.and_eq_true] at hk
  have hk2 : (kkOk X.P T.kI .int && kkOk X.P T.kS .str) = true := by rw [Bool.and_eq_true]; exact ⟨hk.1, hk.2.1⟩
  obtain rfl := Nat.eq_of_beq_eq_true hk.2.2
  obtain ⟨ub, rfl, hin, H⟩ := St_up S hE hob hk2
  have KI := keyT_int (kk_under hk.1)
  have KS := keyT_str (kk_under hk.2.1)
  split at h
  ·rename_i z' x'
   obtain ⟨hy, hr⟩ := ry
   obtain ⟨hz, hxi⟩ := (show RelC E g (.k (.int .i64 x')) (a.eval z) from rz)
   obtain ⟨r, m, hg, hv, hkd, hlen, hK⟩ := h
   subst hv
   obtain ⟨w', hrun, H2⟩ := H.upPut KI KS hg hkd ht z' hr x' hlen
   exact ⟨w', X_mapUpdate ho hx hy hz hrun, g, _, Mono.refl g, S.back hE _ (Mono.refl g) (up_back hE hk2 (upIn_set hin (ents_in (hin.nodes r m hg) hxi)) H2), hK⟩
  ·exact h.elim
 ·exact h.elim
theorem SL.upDrop3 {P : Program} {T : UTy} {u mb : Nat} {q1 q2 nx : Int} {L : List (Int × LNode)} {R : List Atom} {r : Int} {m : LNode} {t e ty : TypeId} (H : SL W g w (upA P T u q1 q2 mb nx L :: R)) (KI : KeyT P T.kI Int) (h : getK L r = some m) (ht : P.underlying t = some (.map T.kI e)) (hr : (Lit.int .i64 r).wf = true) :
  ∃ w', (Builtin.delete_ #[t, T.kI] ty #[.map (some mb), .int .i64 r]).run P w = .ok (.tuple #[]) w' ∧ SL W g w' (nodeA P T m :: upA P T u q1 q2 mb nx (delK L r) :: R) := by
 have H1 := H.upO
 have hn : (L.map (·.1)).Nodup := by
  have := (H1.pick 1).mapNodup KI
  rwa [ptrs_keys] at this
 obtain ⟨w', hrun, H2⟩ := (H1.pick 1).mapDel KI ht r hr (ty := ty)
 refine ⟨w', hrun, ?_⟩
 have e1 : delK (ptrsV L) r = ptrsV (delK L r) := delK_map (fun n : LNode => ptr n.blk 0) L r
 rw [e1] at H2
 have H3 : SL W g w' (Lm.blk u #[.int .i64 q1, .int .i64 q2, .map (some mb), .int .i64 nx] T.U :: mapA P T.kI mb (ptrsV (delK L r)) :: ((L.map fun p => Lm.nodeA P T p.2) ++ R)) := H2.weak fun _ q => q.swap
 obtain ⟨l1, l2, e, h1, h2⟩ := getK_split hn h
 have hd : delK L r = l1 ++ l2 := by
  rw [e]; unfold delK
  rw [List.filter_append, List.filter_cons, List.filter_eq_self.2 fun p hp => by simp [h1 p hp], List.filter_eq_self.2 fun p hp => by simp [h2 p hp]]
  simp
 rw [hd] at H3 ⊢
 have H4 : SL W g w' ((Lm.blk u #[.int .i64 q1, .int .i64 q2, .map (some mb), .int .i64 nx] T.U :: mapA P T.kI mb (ptrsV (l1 ++ l2)) :: l1.map fun p => Lm.nodeA P T p.2) ++ Lm.nodeA P T m :: ((l2.map fun p => Lm.nodeA P T p.2) ++ R)) := by
  refine SL.cast H3 ?_
  rw [e]
  simp
 refine H4.mid.under fun h s => ?_
 have s3 : sats g ((Lm.blk u #[.int .i64 q1, .int .i64 q2, .map (some mb), .int .i64 nx] T.U :: mapA P T.kI mb (ptrsV (l1 ++ l2)) :: (l1 ++ l2).map fun p => Lm.nodeA P T p.2) ++ R) h := by
  simpa using s
 obtain ⟨m1, m2, ap2, q2', s4, s5⟩ := s3.unapp
 exact ⟨m1, m2, ap2, q2', s4, s5⟩
theorem upIn_del {q1 q2 nx : Int} {L : List (Int × LNode)} (h : UpIn q1 q2 nx L) (r : Int) : UpIn q1 q2 nx (delK L r) := ⟨h.q1, h.q2, h.nx, fun y n hn => by
 by_cases e : r = y
 ·subst e
  have : getK (delK L r) r = none := getK_none.2 fun p hp => by
   have := (List.mem_filter.1 hp).2
   simpa using this
  rw [this] at hn; cases hn
 ·refine h.nodes y n ?_
  rw [← hn]
  unfold getK delK
  rw [List.find?_filter]
  congr 1
  congr 1
  funext p
  by_cases e2 : p.1 = y
  ·have : ¬ p.1 = r := fun q => e (q.symm.trans e2)
   simp [e2]
   exact fun q => e q.symm
  ·simp [e2]⟩
theorem upDelE_core (S : Sta n W F b E g w s a) {T : UTy} {u mb : Nat} {q1 q2 nx : Int} {L : List (Int × LNode)} {t et : TypeId} {x y : Operand} {l : Nat} {v : Value} {ky : Cl} {K : Ov → Prop} (hE : E[l]? = some (ptr u 0)) (hk2 : (kkOk X.P T.kI .int && kkOk X.P T.kS .str) = true) (hin : UpIn q1 q2 nx L) (H : SL W g w (upA X.P T u q1 q2 mb nx L :: dropA (atomsO E 0 (b.heap s) ++ F) l))
  (ho : o.op = .call { callee := .builtin .delete, args := #[x, y], argTypes := #[t, T.kS] }) (ht : X.P.underlying t = some (.map T.kS et)) (hx : a.eval x = v) (ry : RelC E g ky (a.eval y)) (h : upDelE s l T q1 q2 mb nx L v ky K) :
  ∃ w' s', (execOp a.eval o).run X.P w = .ok (.value (.tuple #[])) w' ∧ Sta n W F b E g w' s' a ∧ K s' := by
 have KI := keyT_int (kk2_ok.2 hk2).1
 have KS := keyT_str (kk2_ok.2 hk2).2
 unfold upDelE at h
 split at h
 ·rename_i z'
  obtain ⟨hy, hr⟩ := ry
  obtain ⟨r, m, hg, hv, hkd, hK⟩ := h
  subst hv
  obtain ⟨w', hrun, H2⟩ := H.upDel KI KS hg hkd ht z' hr (ty := o.type)
  exact ⟨w', _, X_delete ho hx hy hrun, S.back hE _ (Mono.refl g) (up_back hE hk2 (upIn_set hin (ents_del (hin.nodes r m hg))) H2), hK⟩
 ·exact h.elim
theorem fz_back {P : Program} {T : UTy} {u mb : Nat} {q1 q2 nx : Int} {L : List (Int × LNode)} {z : Option LNode} {hz : Hp} {R : List Atom} {w' : World} {l : Nat} (hE : E[l]? = some (ptr u 0)) (hk : kk2 P T) (hin : UpIn q1 q2 nx L) (H : SL W g w' (fzA P T u q1 q2 mb nx L hz z :: R)) : SL W g w' (atomO E l (.ab (.fz T q1 q2 mb nx L z hz)) :: R) :=
 H.weak fun _ ⟨k1, k2, ap, q, s1, s2⟩ => ⟨k1, k2, ap, q, ⟨_, hE, u, P, rfl, hk, hin, s1⟩, s2⟩
theorem run_upDel (S : Sta n W F b E g w s a) {t k : TypeId} {x y : Operand} {l : Nat} {v : Value} {ky : Cl} {K : Ov → Prop} (ho : o.op = .call { callee := .builtin .delete, args := #[x, y], argTypes := #[t, k] }) (rx : RelC E g (.kl l v) (a.eval x)) (ry : RelC E g ky (a.eval y)) (h : upDelV X b s t k l v ky K) :
  ∃ w' s', (execOp a.eval o).run X.P w = .ok (.value (.tuple #[])) w' ∧ Sta n W F b E g w' s' a ∧ K s' := by
 obtain ⟨⟨xv, hE⟩, hx, _⟩ := rx
 unfold upDelV at h
 split at h
 ·rename_i k' et ht
  have hQ := if_ok h
  clear h
  obtain ⟨hkk, h⟩ := hQ
  obtain rfl := Nat.eq_of_beq_eq_true hkk
  split at h
  ·rename_i T q1 q2 mb nx L hob
   have hQ := if_ok h
   clear h
   obtain ⟨hk2, h⟩ := hQ
   obtain ⟨ub, rfl, hin, H⟩ := St_up S hE hob hk2
   split at h
   ·rename_i hkS
    obtain rfl := Nat.eq_of_beq_eq_true hkS
    exact upDelE_core S hE hk2 hin H ho ht hx ry h
   ·have hQ := if_ok h
    clear h
    obtain ⟨hkI, h⟩ := hQ
    obtain rfl := Nat.eq_of_beq_eq_true hkI
    split at h
    ·rename_i r
     obtain ⟨hy, hr⟩ := ry
     obtain ⟨m, hg, hv, hK⟩ := h
     subst hv
     obtain ⟨w', hrun, H2⟩ := H.upDrop3 (keyT_int (kk2_ok.2 hk2).1) hg ht (inK_wf.1 hr) (ty := o.type)
     obtain ⟨k0, be, se, ow, hA, h1, ap, rfl, sA, hU, hl, ap2, e2, sU, sl⟩ := H2
     subst e2
     have a2 := Hp.apart_join.1 ap
     have H3 : SL W g w' (fzA X.P T ub q1 q2 mb nx (delK L r) hA (some m) :: dropA (atomsO E 0 (b.heap s) ++ F) l) := ⟨_, be, se, ow, hU.join hA, hl, (Hp.apart_join.2 ⟨ap2.symm, a2.2.symm⟩).symm, by rw [← Hp.join_assoc, Hp.join_comm a2.1], ⟨hin.nodes r m hg, hU, a2.1.symm, rfl, sU, sA⟩, sl⟩
     exact ⟨w', _, X_delete ho hx hy hrun, S.back hE _ (Mono.refl g) (fz_back hE (kk2_ok.2 hk2) (upIn_del hin r) H3), hK hA⟩
    ·exact h.elim
  ·rename_i T q1 q2 mb nx L hz hob
   have hQ := if_ok h
   clear h
   obtain ⟨hk3, h⟩ := hQ
   simp only [Bool.and_eq_true] at hk3
   have hk2 : (kkOk X.P T.kI .int && kkOk X.P T.kS .str) = true := by rw [Bool.and_eq_true]; exact ⟨hk3.1, hk3.2.1⟩
   obtain rfl := Nat.eq_of_beq_eq_true hk3.2.2
   obtain ⟨ub, rfl, hin, H⟩ := St_fzS S hE hob hk2
   exact upDelE_core S hE hk2 hin H.fzO.2 ho ht hx ry h
  ·exact h.elim
 ·exact h.elim
theorem um_add {P : Program} {T : UTy} {mb : Nat} {L : List (Int × LNode)} {R : List Atom} {r : Int} {nd : LNode} {t e : TypeId} (hk : kk2 P T) (ht : P.underlying t = some (.map T.kI e)) (H : SL W g w (nodeA P T nd :: umA T mb L :: R)) (hi : NodeIn nd) (hr : inK .i64 r) (hg : getK L r = none) (hlen : L.length < maxLen) :
  ∃ w', (Instr.mapUpdate t (.map (some mb)) (.int .i64 r) (ptr nd.blk 0)).run P w = .ok () w' ∧ SL W g w' (umA T mb ((r, nd) :: L) :: R) := by
 have H1 : SL W g w (umA T mb L :: nodeA P T nd :: R) := H.weak fun _ s => s.swap
 obtain ⟨P', H2⟩ := SL.openE H1
 obtain ⟨⟨hk', hin⟩, H3⟩ := SL.pure H2
 have H4 : SL W g w (mapA P T.kI mb (ptrsV L) :: ((L.map fun p => nodeA P T p.2) ++ nodeA P T nd :: R)) := by
  refine H3.weak fun h s => ?_
  obtain ⟨k1, k2, ap, e1, s1, s2⟩ := s
  refine ⟨k1, k2, ap, e1, mapA_re (k := .int) (by simp [kkOk, hk'.1]) (by simp [kkOk, hk.1]) s1, ?_⟩
  have one : ∀ {n : LNode} {q : Hp}, (nodeA P' T n).sat g q → (nodeA P T n).sat g q := fun {n q} s => by
   obtain ⟨a1, a2, b1, c1, d1, a3, a4, b2, c2, d2, a5, a6, b3, c3, d3, a7, a8, b4, c4, d4, a9, a10, b5, c5, d5, r⟩ := s
   refine ⟨a1, a2, b1, c1, d1, a3, a4, b2, c2, d2, a5, a6, b3, c3, d3, a7, a8, b4, c4, d4, a9, a10, b5, c5, ?_, r⟩
   exact mapVA_re (k := .str) (by simp [kkOk, hk'.2]) (by simp [kkOk, hk.2]) d5
  have all : ∀ {M : List (Int × LNode)} {Z : List Atom} {q : Hp}, sats g ((M.map fun p => nodeA P' T p.2) ++ Z) q → sats g ((M.map fun p => nodeA P T p.2) ++ Z) q := fun {M Z} => by
   induction M with
   | nil => exact fun s => s
   | cons p M ih => exact fun ⟨a, b, c, d, s1, s2⟩ => ⟨a, b, c, d, one s1, ih s2⟩
  exact all s2
 obtain ⟨w', hrun, H5⟩ := H4.mapPut (keyT_int hk.1) ht (by unfold ptrsV; rw [List.length_map]; exact hlen) r (inK_wf.1 hr) (ptr nd.blk 0)
 refine ⟨w', hrun, ?_⟩
 have hp : putK (ptrsV L) r (ptr nd.blk 0) = ptrsV ((r, nd) :: L) := by
  unfold putK
  rw [delK_none (by rw [getK_ptrs, hg]; rfl)]; rfl
 rw [hp] at H5
 refine SL.shutE (f := fun P : Program => pureA (kk2 P T ∧ ∀ r' n, getK ((r, nd) :: L) r' = some n → NodeIn n) :: mapA P T.kI mb (ptrsV ((r, nd) :: L)) :: ((r, nd) :: L).map fun p => nodeA P T p.2) P ?_
 refine SL.addPure ⟨hk, fun y n hn => ?_⟩ ?_
 ·rw [getK_cons'] at hn
  split at hn
  ·obtain rfl := Option.some.inj hn
   exact hi
  ·exact hin y n hn
 ·refine H5.weak fun h s => ?_
  obtain ⟨k1, k2, ap, e1, s1, s2⟩ := s
  refine ⟨k1, k2, ap, e1, s1, ?_⟩
  exact sats.ofEnd s2
theorem run_umPut (S : Sta n W F b E g w s a) {t k et : TypeId} {l : Nat} {v vy vz : Value} {ky : Cl} {u : S1} {K : Ov → Prop} (ht : X.P.underlying t = some (.map k et)) {xv : Value} (hE : E[l]? = some xv) (ry : RelC E g ky vy) (rz : RelS E g u vz) (h : umPutV X.P b s k l v ky u K) :
  ∃ w', (Instr.mapUpdate t v vy vz).run X.P w = .ok () w' ∧ ∃ g' s', Mono g g' ∧ Sta n W F b E g' w' s' a ∧ K s' := by
 unfold umPutV at h
 split at h
 ·rename_i T mb L hob
  have hQ := if_ok h
  clear h
  obtain ⟨hk3, h⟩ := hQ
  simp only [Bool.and_eq_true] at hk3
  have hk2 : kk2 X.P T := ⟨kk_under hk3.1, kk_under hk3.2.1⟩
  obtain rfl := Nat.eq_of_beq_eq_true hk3.2.2
  obtain ⟨g1, s1, nd, m1, hvz, hi, hK, S1⟩ := newNode_ok S hk2 rz h
  split at hK
  ·rename_i T' mb' L' hob1
   have hQ := if_ok hK
   clear hK
   obtain ⟨hT, hK⟩ := hQ
   obtain rfl := UTy.eq_of_beq hT
   split at hK
   ·rename_i r
    obtain ⟨hy, hr⟩ := ry
    obtain ⟨hv, hg, hlen, hK⟩ := hK
    subst hv
    have H := S1.take2 hE
    rw [hob1] at H
    have H1 : SL W g1 w (nodeA X.P T' nd :: umA T' mb' L' :: dropA (atomsO E 0 (b.heap s1) ++ F) l) := H.weak fun _ ⟨k1, k2, ap, e, s1, k3, k4, ap2, e2, ⟨_, _, s3⟩, s4⟩ => ⟨k1, k2, ap, e, s1, k3, k4, ap2, e2, s3, s4⟩
    obtain ⟨w', hrun, H2⟩ := um_add hk2 ht H1 hi hr hg hlen
    rw [hvz, hy]
    exact ⟨w', hrun, g1, _, m1, S1.back2 hE (.ab (.um T' mb' ((r, nd) :: L'))) (Mono.refl g1) (H2.weak fun _ ⟨k1, k2, ap, e, s1, s2⟩ => ⟨k1, k2, ap, e, ⟨_, hE, s1⟩, s2⟩), hK⟩
   ·exact hK.elim
  ·exact hK.elim
 ·exact h.elim
theorem run_mapPutV (S : Sta n W F b E g w s a) {t : TypeId} {x y z : Operand} {mx ky : Cl} {v : S1} {K : Ov → Prop} (ho : o.op = .mapUpdate t x y z) (rx : RelC E g mx (a.eval x)) (ry : RelC E g ky (a.eval y)) (rz : RelS E g v (a.eval z)) (h : mapPutV X b s t mx ky v K) :
  ∃ w', (execOp a.eval o).run X.P w = .ok .skip w' ∧ ∃ g' s', Mono g g' ∧ Sta n W F b E g' w' s' a ∧ K s' := by
 unfold mapPutV at h
 split at h
 ·rename_i k et ht
  split at h
  ·rename_i l
   obtain ⟨bb, hE, hx⟩ := rx
   obtain ⟨g1, s1, cs, m1, S1, hcs, h⟩ := holdCs_ok S rz.cells h
   split at h
   ·rename_i k' kk e xs hob
    obtain ⟨hk, h5⟩ := if_ok h
    simp only [Bool.and_eq_true] at hk
    obtain ⟨⟨hk1, hk2⟩, hk3⟩ := hk
    obtain rfl := Nat.eq_of_beq_eq_true hk1
    split at h5
    ·rename_i q x' hq hof
     obtain ⟨hlen, h6⟩ := h5
     obtain ⟨m, h1, H⟩ := St_map S1 hE hob hk2
     letI := kk.key
     obtain ⟨hy, hok⟩ := keyOfCl_ok hq ry
     obtain ⟨w', hr, H2⟩ := H.mapPut (kkOk_ok hk2) ht (by rw [h1.length]; exact hlen) q hok (a.eval z)
     have hiv : IsV g1 e (a.eval z) x' := s1In_ok (E := E) hk3 (rz.cells.mono (EnvLe.refl E) m1) (rz.mono (EnvLe.refl E) m1) hcs hof
     have S2 : Sta n W F b E g1 w' (s1.setO l (.map k kk e (kk.put xs q x'))) a := S1.back hE _ (Mono.refl g1) (H2.weak fun q0 ⟨k1, k2, ap, q2, s1', s2⟩ => ⟨k1, k2, ap, q2, (show (atomO E l (.map k kk e (kk.put xs q x'))).sat g1 k1 from ⟨bb, putK m q (a.eval z), hE, ⟨x', kk.del xs q, rfl, hiv, mapVs_del q h1⟩, X.P, hk2, s1'⟩), s2⟩)
     exact ⟨w', X_mapUpdate ho hx hy rfl hr, g1, _, m1, S2, h6⟩
    ·exact h5.elim
   ·exact h.elim
  ·split at h
   ·obtain ⟨⟨xv, hE⟩, hx, _⟩ := rx
    obtain ⟨w', hrun, hh⟩ := run_umPut S ht hE ry rz h
    exact ⟨w', X_mapUpdate ho hx rfl rfl hrun, hh⟩
   ·exact run_upPut S ho ht rx ry rz h
  ·exact h.elim
 ·exact h.elim
theorem run_insertV (S : Sta n W F b E g w s a) {t : TypeId} {x y z : Operand} {mx ky : Cl} {v : S1} {K : Ov → Prop} (ho : o.op = .insert t x y z) (rx : RelC E g mx (a.eval x)) (ry : RelC E g ky (a.eval y)) (rz : RelS E g v (a.eval z)) (h : mapPutV X b s t mx ky v K) :
  ∃ w', (execOp a.eval o).run X.P w = .ok .skip w' ∧ ∃ g' s', Mono g g' ∧ Sta n W F b E g' w' s' a ∧ K s' := by
 obtain ⟨w', h1, h2⟩ := run_mapPutV (o := { o with op := .mapUpdate t x y z }) S rfl rx ry rz h
 exact ⟨w', by rw [← h1]; simp [execOp, ho], h2⟩
end
end Go.Lm

namespace Go.Lm
open Go Go.RowKit
def RelVs (E : Env) (g : World) : List SV → List Value → Prop
 | [], us => us = []
 | c :: l, us => ∃ u r, us = u :: r ∧ RelV E g c u ∧ RelVs E g l r
def WpW (W : Base) (P : Program) (f : FuncId) (args : List SV) (H : List HO) (Q : SV → List HO → Prop) : Prop :=
 ∀ (g w : World) (E : Env) (F : List Atom) (vs : List Value), Sat W E g w H F → RelVs E g args vs →
  Ret P f vs.toArray w fun v w' => ∃ E' g' sv H', EnvLe E E' ∧ Mono g g' ∧ Sat W E' g' w' H' F ∧ RelV E' g' sv v ∧ Q sv H'
def Wp (I : Base → Prop) (P : Program) (f : FuncId) (args : List SV) (H : List HO) (Q : SV → List HO → Prop) : Prop := ∀ W, I W → WpW W P f args H Q
section
variable {W : Base} {F : List Atom} {E E' : Env} {g w : World}
def RenOk (r : Nat → Option Nat) (E E' : Env) : Prop := ∀ l l' v, r l = some l' → E[l]? = some v → E'[l']? = some v
mutual
theorem RelC.ren {r : Nat → Option Nat} (hr : RenOk r E E') : ∀ {c : Cl} {u : Value}, RelC E g c u → RelC E' g (c.ren r) u
 | .k _, _, h => h
 | .d _ _, _, h => h
 | .de _ _ _ _, _, h => h
 | .unk, _, h => h
 | .p l off, u, h => by
  have h1 := RelC.one h
  obtain ⟨b, h2, h3⟩ := h
  unfold Cl.ren
  cases hl : r l with
  | none => exact h1
  | some l' => exact ⟨b, hr _ _ _ hl h2, h3⟩
 | .o l, u, h => by
  have h1 := RelC.one h
  obtain ⟨h2, h3⟩ := h
  unfold Cl.ren
  cases hl : r l with
  | none => exact h1
  | some l' => exact ⟨hr _ _ _ hl h2, h3⟩
 | .os l sz lo hi, u, h => by
  have h1 := RelC.one h
  obtain ⟨v, h2, h3⟩ := h
  unfold Cl.ren
  cases hl : r l with
  | none => exact h1
  | some l' => exact ⟨v, hr _ _ _ hl h2, h3⟩
 | .oe l sz i off, u, h => by
  have h1 := RelC.one h
  obtain ⟨v, h2, h3⟩ := h
  unfold Cl.ren
  cases hl : r l with
  | none => exact h1
  | some l' => exact ⟨v, hr _ _ _ hl h2, h3⟩
 | .m l, u, h => by
  have h1 := RelC.one h
  obtain ⟨b, h2, h3⟩ := h
  unfold Cl.ren
  cases hl : r l with
  | none => exact h1
  | some l' => exact ⟨b, hr _ _ _ hl h2, h3⟩
 | .sc l off n, u, h => by
  have h1 := RelC.one h
  obtain ⟨b, c, h2, h3⟩ := h
  unfold Cl.ren
  cases hl : r l with
  | none => exact h1
  | some l' => exact ⟨b, c, hr _ _ _ hl h2, h3⟩
 | .kl l v, u, h => by
  have h1 := RelC.one h
  obtain ⟨⟨x, h2⟩, h3⟩ := h
  unfold Cl.ren
  cases hl : r l with
  | none => exact h1
  | some l' => exact ⟨⟨x, hr _ _ _ hl h2⟩, h3⟩
 | .fn f caps, _, ⟨us, h1, h2⟩ => ⟨us, RelCs.ren hr h1, h2⟩
 | .ifc t c, _, ⟨v, h1, h2⟩ => ⟨v, RelC.ren hr h1, h2⟩
theorem RelCs.ren {r : Nat → Option Nat} (hr : RenOk r E E') : ∀ {l : List Cl} {us : List Value}, RelCs E g l us → RelCs E' g (Cl.rens r l) us
 | [], _, h => h
 | _ :: _, _, ⟨u, q, e, h1, h2⟩ => ⟨u, q, e, RelC.ren hr h1, RelCs.ren hr h2⟩
end
theorem RelS.ren {r : Nat → Option Nat} (hr : RenOk r E E') : ∀ {x : S1} {u : Value}, RelS E g x u → RelS E' g (x.ren r) u
 | .c _, _, h => RelC.ren hr h
 | .agg _, _, ⟨us, h1, h2⟩ => ⟨us, RelCs.ren hr h1, h2⟩
theorem RelSs.ren {r : Nat → Option Nat} (hr : RenOk r E E') : ∀ {l : List S1} {us : List Value}, RelSs E g l us → RelSs E' g (S1.rens r l) us
 | [], _, h => h
 | _ :: _, _, ⟨u, q, e, h1, h2⟩ => ⟨u, q, e, RelS.ren hr h1, RelSs.ren hr h2⟩
theorem RelV.ren {r : Nat → Option Nat} (hr : RenOk r E E') : ∀ {x : SV} {u : Value}, RelV E g x u → RelV E' g (x.ren r) u
 | .v _, _, h => RelS.ren hr h
 | .tup _, _, ⟨us, h1, h2⟩ => ⟨us, RelSs.ren hr h1, h2⟩
 | .any, _, _ => trivial
theorem RelVs.ren {r : Nat → Option Nat} (hr : RenOk r E E') : ∀ {l : List SV} {us : List Value}, RelVs E g l us → RelVs E' g (l.map (·.ren r)) us
 | [], _, h => h
 | _ :: _, _, ⟨u, q, e, h1, h2⟩ => ⟨u, q, e, RelV.ren hr h1, RelVs.ren hr h2⟩
theorem atomO.ren {r : Nat → Option Nat} (hr : RenOk r E E') {l l' : Nat} (hl : r l = some l') : ∀ {o : HO} {h : Hp}, (atomO E l o).sat g h → (atomO E' l' (o.ren r)).sat g h
 | .cells _ _, _, ⟨b, us, h1, h2, h3⟩ => ⟨b, us, hr _ _ _ hl h1, RelCs.ren hr h2, h3⟩
 | .sl _ _ _, _, ⟨v, h1, h2⟩ => ⟨v, hr _ _ _ hl h1, h2⟩
 | .held _ _ _, _, ⟨v, h1, h2⟩ => ⟨v, hr _ _ _ hl h1, h2⟩
 | .map .., _, ⟨b, m, h1, h2⟩ => ⟨b, m, hr _ _ _ hl h1, h2⟩
 | .abs _, _, ⟨v, h1, h2⟩ => ⟨v, hr _ _ _ hl h1, h2⟩
 | .ab _, _, ⟨v, h1, h2⟩ => ⟨v, hr _ _ _ hl h1, h2⟩
 | .up .., _, ⟨u, P, h1, h2⟩ => ⟨u, P, hr _ _ _ hl h1, h2⟩
 | .gone, _, h => h

theorem sats.under {A : List Atom} {X Y : List Atom} (k : ∀ h, sats g X h → sats g Y h) : ∀ {h : Hp}, sats g (A ++ X) h → sats g (A ++ Y) h := by
 induction A with
 | nil => exact fun s => k _ s
 | cons a A ih => exact fun ⟨h1, h2, ap, e, s1, s2⟩ => ⟨h1, h2, ap, e, s1, ih s2⟩
theorem sats.comm : ∀ {A B : List Atom} {h : Hp}, sats g (A ++ (B ++ F)) h → sats g (B ++ (A ++ F)) h
 | _, [], _, s => s
 | A, b :: B, _, s => by
  obtain ⟨h1, h2, ap, e, s1, s2⟩ := sats.ofEnd (A := A) (F := B ++ F) s
  exact ⟨h1, h2, ap, e, s1, sats.comm s2⟩
theorem sats.take1 {H : List HO} {l : Nat} {o : HO} (ho : H[l]? = some o) {h : Hp} (s : sats g (atomsO E 0 H ++ F) h) : sats g (atomO E l o :: (atomsO E 0 (H.set l .gone) ++ F)) h := by
 have hn := nthA_atoms (E := E) (F := F) (k := 0) ho
 rw [Nat.zero_add] at hn
 obtain ⟨h1, h2, ap, e, s1, s2⟩ := sats.pick hn s
 refine ⟨h1, h2, ap, e, s1, ?_⟩
 have h3 := setA_atoms (E := E) (F := F) (k := 0) (o' := .gone) (List.getElem?_eq_some_iff.1 ho).1
 rw [Nat.zero_add] at h3
 rw [← h3]
 exact sats.unpick hn ⟨fun _ => none, h2, fun _ => .inl rfl, by funext b; rfl, trivial, s2⟩
theorem sats.put1 {H : List HO} {l : Nat} {o : HO} (hl : l < H.length) {h : Hp} (s : sats g (atomO E l o :: (atomsO E 0 H ++ F)) h) : sats g (atomsO E 0 (H.set l o) ++ F) h := by
 obtain ⟨h1, h2, ap, e, s1, s2⟩ := s
 have hn := nthA_atoms (E := E) (F := F) (k := 0) (List.getElem?_eq_getElem hl)
 rw [Nat.zero_add] at hn
 have h3 := setA_atoms (E := E) (F := F) (k := 0) (o' := o) hl
 rw [Nat.zero_add] at h3
 rw [← h3]
 obtain ⟨k1, k2, ap2, e2, _, s3⟩ := sats.pick hn s2
 -- what stood there is let go
 have : sats g (dropA (atomsO E 0 H ++ F) l) h2 := by
  rw [e2]
  have key : ∀ {L : List Atom} {k1 k2 : Hp}, Hp.apart k1 k2 → sats g L k2 → sats g L (k1.join k2) := by
   intro L
   induction L with
   | nil => intros; trivial
   | cons a L ih =>
    rintro k1 k2 ap ⟨m1, m2, ap3, e3, s4, s5⟩
    subst e3
    obtain ⟨a1, a2⟩ := Hp.apart_join.1 ap
    refine ⟨m1, k1.join m2, Hp.apart_join.2 ⟨a1.symm, ap3⟩, ?_, s4, ih a2 s5⟩
    rw [← Hp.join_assoc, Hp.join_comm a1, Hp.join_assoc]
  exact key ap2 s3
 exact sats.unpick hn ⟨h1, h2, ap, e, s1, this⟩
def goneAll (H : List HO) : List Nat → List HO
 | [] => H
 | l :: r => (goneAll H r).set l .gone
theorem goneAll_len (H : List HO) : ∀ ls, (goneAll H ls).length = H.length
 | [] => rfl
 | _ :: r => by unfold goneAll; rw [List.length_set, goneAll_len H r]
theorem memN_iff {l : Nat} : ∀ {ls : List Nat}, memN l ls = true ↔ l ∈ ls
 | [] => by simp [memN]
 | m :: r => by
  unfold memN
  by_cases e : l = m
  ·subst e; simp
  ·rw [beq_ne e]
   simp [memN_iff (ls := r), e]
theorem nodupN_iff : ∀ {ls : List Nat}, nodupN ls = true ↔ ls.Nodup
 | [] => by simp [nodupN]
 | l :: r => by
  unfold nodupN
  rw [Bool.and_eq_true, nodupN_iff (ls := r), List.nodup_cons]
  constructor
  ·rintro ⟨h1, h2⟩
   refine ⟨fun hm => ?_, h2⟩
   rw [memN_iff.2 hm] at h1; cases h1
  ·rintro ⟨h1, h2⟩
   refine ⟨?_, h2⟩
   cases hm : memN l r with
   | false => rfl
   | true => exact absurd (memN_iff.1 hm) h1
theorem goneAll_get {H : List HO} {l : Nat} : ∀ {ls : List Nat}, l ∉ ls → (goneAll H ls)[l]? = H[l]?
 | [], _ => rfl
 | m :: r, h => by
  unfold goneAll
  have h1 : m ≠ l := fun e => h (by simp [e])
  rw [List.getElem?_set_ne h1, goneAll_get (fun q => h (List.mem_cons_of_mem _ q))]
def selA (E : Env) (H : Nat → HO) (ls : List Nat) : List Atom := ls.map fun l => atomO E l (H l)
theorem sats.takeAll {H : List HO} {ob : Nat → HO} : ∀ {ls : List Nat} {h : Hp}, ls.Nodup → (∀ l ∈ ls, H[l]? = some (ob l)) → sats g (atomsO E 0 H ++ F) h → sats g (atomsO E 0 (goneAll H ls) ++ (selA E ob ls ++ F)) h
 | [], _, _, _, s => s
 | l :: r, _, hn, ho, s => by
  rw [List.nodup_cons] at hn
  have s1 := sats.takeAll hn.2 (fun q hq => ho q (List.mem_cons_of_mem _ hq)) s
  have s2 := sats.take1 (F := selA E ob r ++ F) (o := ob l) (by rw [goneAll_get hn.1]; exact ho l (by simp)) s1
  exact sats.toEnd s2
theorem sats.selRen {ob : Nat → HO} {r : Nat → Option Nat} (hr : RenOk r E E') {X : List Atom} : ∀ {ls : List Nat} {k : Nat} {h : Hp}, (∀ i l, ls[i]? = some l → r l = some (k + i)) → sats g (selA E ob ls ++ X) h → sats g (atomsO E' k (ls.map fun l => (ob l).ren r) ++ X) h
 | [], _, _, _, s => s
 | l :: ls, k, _, hi, ⟨h1, h2, ap, e, s1, s2⟩ => ⟨h1, h2, ap, e, atomO.ren hr (by have := hi 0 l rfl; simpa using this) s1, sats.selRen hr (k := k + 1) (fun i m hm => by
   have := hi (i + 1) m (by simpa using hm)
   rw [this]; congr 1; omega) s2⟩
end
end Go.Lm

