/- What an upper branch is, without its places: what its calls come to. Plain. General: no program in sight. -/
import Derived.Test.YtnmaehdklmgfmaaLmUp2
namespace Go.Lm
open Go Go.RowKit
structure UNode where
  kind : Int
  mode : Int
  uid : Int
  gid : Int
  data : List UInt8
  target : ByteArray
  xattrs : List XattrD
  opq : Bool
  ents : List (ByteArray × Int)
  up : Int
  links : Int
abbrev UL := List (Int × UNode)
abbrev LNode.er (n : LNode) : UNode := ⟨n.kind, n.mode, n.uid, n.gid, n.data, n.target, n.xattrs, n.opq, n.ents, n.up, n.links⟩
def er (L : List (Int × LNode)) : UL := L.map fun p => (p.1, p.2.er)
theorem getK_er (L : List (Int × LNode)) (r : Int) : getK (er L) r = (getK L r).map LNode.er := getK_map LNode.er L r
theorem getK_er_some {L : List (Int × LNode)} {r : Int} {n : LNode} (h : getK L r = some n) : getK (er L) r = some n.er := by rw [getK_er, h]; rfl
theorem getK_er_none {L : List (Int × LNode)} {r : Int} (h : getK L r = none) : getK (er L) r = none := by rw [getK_er, h]; rfl
theorem er_setK (L : List (Int × LNode)) (r : Int) (n : LNode) : er (setK L r n) = setK (er L) r n.er := by
  unfold er setK
  rw [List.map_map, List.map_map]
  apply List.map_congr_left
  intro p _
  simp only [Function.comp]
  by_cases h : p.1 = r <;> simp [h]
theorem er_delK (L : List (Int × LNode)) (r : Int) : er (delK L r) = delK (er L) r := (delK_map LNode.er L r).symm
theorem er_cons (r : Int) (n : LNode) (L : List (Int × LNode)) : er ((r, n) :: L) = (r, n.er) :: er L := rfl
theorem er_len (L : List (Int × LNode)) : (er L).length = L.length := by unfold er; rw [List.length_map]
theorem er_get {L : List (Int × LNode)} {r : Int} {m : UNode} (h : getK (er L) r = some m) : ∃ n, getK L r = some n ∧ n.er = m := by
  rw [getK_er] at h
  cases hq : getK L r with
  | none => rw [hq] at h; cases h
  | some n => rw [hq] at h; exact ⟨n, rfl, Option.some.inj h⟩
def freshU (U : UL) (d : Int) (s : ByteArray) : Int := match getK U d with
  | none => 1
  | some n => if n.kind = 1 then (if validN s = 0 then (if (getK n.ents s).isSome then 21 else 0) else validN s) else 24
theorem freshE_er (L : List (Int × LNode)) (d : Int) (s : ByteArray) : freshE L d s = freshU (er L) d s := by
  unfold freshE freshU
  rw [getK_er]
  cases getK L d <;> rfl
def fileE (U : UL) (r : Int) : Int := match getK U r with | none => 1 | some n => if n.kind = 1 then 25 else if n.kind = 2 then 0 else 1
def dirE (U : UL) (r : Int) : Int := match getK U r with | none => 1 | some n => if n.kind = 1 then 0 else 24
def sizedL (d : List UInt8) (n : Int) : List UInt8 := copyL (List.replicate n.toNat 0) 0 d
def writeL (d : List UInt8) (off : Int) (b : List UInt8) : List UInt8 := copyL (sizedL d (max (d.length : Int) (off + b.length))) off.toNat b
def writeE (U : UL) (r off : Int) (b : List UInt8) : Int := if fileE U r = 0 then (if off < 0 then 1 else if off > 4096 ∨ (b.length : Int) > 4096 - off then 3 else 0) else fileE U r
def writeU (U : UL) (r off : Int) (b : List UInt8) : UL := if writeE U r off b = 0 ∧ (b.length : Int) ≠ 0 then (match getK U r with | some n => setK U r { n with data := writeL n.data off b } | none => U) else U
def resizeE (U : UL) (r n : Int) : Int := if fileE U r = 0 then (if n < 0 then 1 else if n > 4096 then 3 else 0) else fileE U r
def resizeU (U : UL) (r k : Int) : UL := if resizeE U r k = 0 then (match getK U r with | some n => setK U r { n with data := sizedL n.data k } | none => U) else U
def readE (U : UL) (r off n : Int) : Int := if fileE U r = 0 then (if off < 0 ∨ n < 0 then 1 else 0) else fileE U r
def readU (U : UL) (r off k : Int) : List UInt8 := if readE U r off k = 0 then (match getK U r with | some n => if off ≥ n.data.length then [] else (n.data.drop off.toNat).take ((off + min k ((n.data.length : Int) - off)).toNat - off.toNat) | none => []) else []
structure MkN where
  kind : Int
  mode : Int
  uid : Int
  gid : Int
  data : List UInt8
  target : ByteArray
  xattrs : List XattrD
def goodM (m : MkN) : Bool := goodN m.kind m.mode m.uid m.gid m.data m.target m.xattrs
def newU (m : MkN) (d : Int) : UNode := ⟨m.kind, m.mode, m.uid, m.gid, m.data, m.target, m.xattrs, false, [], if m.kind = 1 then d else 0, 1⟩
def makeE (U : UL) (d : Int) (s : ByteArray) (m : MkN) : Int := if freshU U d s = 0 then (if goodM m then 0 else 1) else freshU U d s
def makeU (U : UL) (nx d : Int) (s : ByteArray) (m : MkN) : UL := if makeE U d s m = 0 then (match getK U d with | some n => setK ((nx, newU m d) :: U) d { n with ents := putK n.ents s nx } | none => U) else U
theorem sizedL_length (d : List UInt8) (n : Int) : (sizedL d n).length = n.toNat := by unfold sizedL; rw [copyL_length _ _ _ (by simp)]; simp
theorem SL.keep1 (k : Nat) {W : Base} {g w : World} {a : Atom} {l : List Atom} (H : SL W g w (a :: l)) : SL W g w (a :: Lm.dropN k l) := H.under fun h s => by
  have key : ∀ (k : Nat) (l : List Atom) (h : Hp), sats g l h → sats g (Lm.dropN k l) h := by
    intro k
    induction k with
    | zero => exact fun _ _ s => s
    | succ k ih =>
      intro l h s
      cases l with
      | nil => exact s
      | cons x l =>
        obtain ⟨h1, h2, ap, e, _, s2⟩ := s
        have h3 := ih l h2 s2
        rw [e]
        have := sats.app (a := []) (l := Lm.dropN k l) ap trivial h3
        exact this
  exact key k l h s
theorem mayGo_all : ∀ {l : List XattrD} {last : ByteArray}, mayGo l last = true → ∀ x ∈ l, x.v.2.1.length ≤ 200 ∧ x.v.1.size ≤ 40
  | [], _, _, x, h => by cases h
  | y :: r, last, h, x, hx => by
    unfold mayGo at h
    split at h
    · cases h
    · rename_i hb
      rcases List.mem_cons.1 hx with rfl | hx
      · unfold badM at hb
        simp at hb
        exact ⟨by omega, by omega⟩
      · exact mayGo_all h x hx
theorem good_lens {kind m u g : Int} {data : List UInt8} {target : ByteArray} {xs : List XattrD} (h : goodN kind m u g data target xs = true) : data.length ≤ 4096 ∧ xs.length ≤ 8 ∧ target.size ≤ 200 ∧ (∀ x ∈ xs, x.v.2.1.length ≤ 200 ∧ x.v.1.size ≤ 40) ∧ (kind = 1 ∨ kind = 2 ∨ kind = 3 ∨ kind = 4) := by
  have hno : ∀ s : ByteArray, noB s = true → s.size = 0 := fun s hs => by
    unfold noB at hs
    have := eq_of_beq hs
    have h2 := congrArg List.length this
    rw [Lib.toList_data, Lib.toList_data] at h2
    rw [size_list]; exact h2
  have hm : mayX xs = true → xs.length ≤ 8 ∧ ∀ x ∈ xs, x.v.2.1.length ≤ 200 ∧ x.v.1.size ≤ 40 := fun hx => by
    unfold mayX at hx
    simp only [Bool.and_eq_true, decide_eq_true_eq] at hx
    exact ⟨by omega, mayGo_all hx.1⟩
  unfold goodN at h
  split at h
  · simp only [Bool.and_eq_true] at h
    have h1 := eq_of_beq h.1.1.1
    have h2 := hno _ h.1.1.2
    have h3 := hm h.2
    exact ⟨by omega, h3.1, by omega, h3.2, by omega⟩
  · split at h
    · simp only [Bool.and_eq_true, decide_eq_true_eq] at h
      have h2 := hno _ h.1.1.2
      have h3 := hm h.2
      exact ⟨by omega, h3.1, by omega, h3.2, by omega⟩
    · split at h
      · simp only [Bool.and_eq_true, decide_eq_true_eq] at h
        have h1 := eq_of_beq h.1.1.1
        have h3 := hm h.2
        exact ⟨by omega, h3.1, by omega, h3.2, by omega⟩
      · split at h
        · simp only [Bool.and_eq_true] at h
          have h1 := eq_of_beq h.1.1.1
          have h2 := hno _ h.1.1.2
          have h3 := eq_of_beq h.2
          have h4 : xs = [] := List.eq_nil_of_length_eq_zero (by omega)
          subst h4
          exact ⟨by omega, by simp, by omega, by simp, by omega⟩
        · cases h
theorem getK_cons_ne {κ α : Type} [MKey κ] {l : List (κ × α)} {x y : κ} {v : α} (h : y ≠ x) : getK ((y, v) :: l) x = getK l x := by
  unfold getK
  rw [List.find?_cons]
  simp [h]
theorem ref_ne {α : Type} {L : List (Int × α)} {a b : Int} {n : α} (h1 : getK L a = none) (h2 : getK L b = some n) : a ≠ b := fun e => by
  subst e; rw [h1] at h2; cases h2
theorem Is.cast {α : Type} [GoRep α] {g : World} {v : Value} {a b : α} (h : Is g v a) (e : a = b) : Is g v b := e ▸ h
theorem tup_ii {a b c d : Int} (h : a = b) (k : c = d) : Value.tuple #[.int .i64 a, .int .i64 c] = Value.tuple #[.int .i64 b, .int .i64 d] := by rw [h, k]
theorem getK_setK_ne {κ α : Type} [MKey κ] {l : List (κ × α)} {x y : κ} {u : α} (h : x ≠ y) : getK (setK l x u) y = getK l y := by
  unfold getK setK
  induction l with
  | nil => rfl
  | cons p l ih =>
    simp only [List.map_cons, List.find?_cons]
    by_cases e : p.1 = x
    · have e2 : ¬ p.1 = y := fun q => h (e.symm.trans q)
      rw [if_pos e]
      simp only [e2, decide_false]
      exact ih
    · rw [if_neg e]
      by_cases e2 : p.1 = y
      · simp only [e2, decide_true]
      · simp only [e2, decide_false]
        exact ih
theorem getK_delK_ne {κ α : Type} [MKey κ] {l : List (κ × α)} {x y : κ} (h : x ≠ y) : getK (delK l x) y = getK l y := by
  unfold getK delK
  induction l with
  | nil => rfl
  | cons p l ih =>
    by_cases e : p.1 = x
    · have e2 : ¬ p.1 = y := fun q => h (e.symm.trans q)
      rw [List.filter_cons, List.find?_cons]
      simp only [e, decide_true, Bool.not_true, Bool.false_eq_true, if_false]
      rw [← e]
      simp only [e2, decide_false]
      rw [e]
      exact ih
    · rw [List.filter_cons]
      simp only [e, decide_false, Bool.not_false, if_true, List.find?_cons]
      by_cases e2 : p.1 = y
      · simp only [e2, decide_true]
      · simp only [e2, decide_false]
        exact ih
theorem ne_of_kind {L : List (Int × LNode)} {a b : Int} {n m : LNode} (ha : getK L a = some n) (hb : getK L b = some m) (h : n.kind ≠ m.kind) : a ≠ b := fun e => by
  subst e
  rw [ha] at hb
  exact h (by rw [Option.some.inj hb])
theorem ne_of_ents {L : List (Int × LNode)} {a b : Int} {n m : LNode} {s : ByteArray} {x : Int} (ha : getK L a = some n) (hb : getK L b = some m) (h : getK n.ents s = some x) (h0 : m.ents = []) : a ≠ b := fun e => by
  subst e
  rw [ha] at hb
  have : n = m := Option.some.inj hb
  subst this
  rw [h0] at h
  cases h
def statE (U : UL) (r : Int) : Int := match getK U r with | none => 1 | some _ => 0
def lookE (U : UL) (r : Int) (s : ByteArray) : Int := match getK U r with | none => 1 | some n => if n.kind = 1 then (match getK n.ents s with | none => 20 | some _ => 0) else 24
def linkE (U : UL) (d : Int) (s : ByteArray) (r : Int) : Int := match getK U r, getK U d with
  | some n, some _ => if freshU U d s = 0 then (if n.kind = 1 then 25 else 0) else freshU U d s
  | _, _ => 1
def linkU (U : UL) (d : Int) (s : ByteArray) (r : Int) : UL := if linkE U d s r = 0 then (match getK U d, getK U r with
  | some m, some n => setK (setK U d { m with ents := putK m.ents s r }) r { n with links := n.links + 1 }
  | _, _ => U) else U
/-- A name less, of a node that has nothing in it. -/
def letS (U : UL) (r : Int) : UL := match getK U r with
  | none => U
  | some n => if n.links - 1 > 0 then setK U r { n with links := n.links - 1 } else delK U r
def removeE (U : UL) (d : Int) (s : ByteArray) : Int := lookE U d s
def removeS (U : UL) (d : Int) (s : ByteArray) : UL := match getK U d with
  | none => U
  | some n => if n.kind = 1 then (match getK n.ents s with | none => U | some r => letS (setK U d { n with ents := delK n.ents s }) r) else U
section
variable {P : Program} {T : UTy} {W : Base} {g w : World} {l : List Atom} {u mb : Nat} {q1 q2 nx : Int} {L : List (Int × LNode)}
/-- A node goes; what it has is still there. -/
theorem SL.upDrop2 {r : Int} {n : LNode} {t e ty : TypeId} (H : SL W g w (upA P T u q1 q2 mb nx L :: l)) (KI : KeyT P T.kI Int) (h : getK L r = some n) (ht : P.underlying t = some (.map T.kI e)) (hr : (Lit.int .i64 r).wf = true) :
    ∃ w', (Builtin.delete_ #[t, T.kI] ty #[.map (some mb), .int .i64 r]).run P w = .ok (.tuple #[]) w' ∧ SL W g w' (Lm.blk n.blk n.cells T.N :: mapVA P T.kS n.vi (entsV n.ents) :: upA P T u q1 q2 mb nx (delK L r) :: l) := by
  have H1 := H.upO
  have hn : (L.map (·.1)).Nodup := by
    have := (H1.pick 1).mapNodup KI
    rwa [ptrs_keys] at this
  obtain ⟨w', hrun, H2⟩ := (H1.pick 1).mapDel KI ht r hr (ty := ty)
  refine ⟨w', hrun, ?_⟩
  have e1 : delK (ptrsV L) r = ptrsV (delK L r) := delK_map (fun n : LNode => ptr n.blk 0) L r
  rw [e1] at H2
  have H3 : SL W g w' (Lm.blk u #[.int .i64 q1, .int .i64 q2, .map (some mb), .int .i64 nx] T.U :: mapA P T.kI mb (ptrsV (delK L r)) :: ((L.map fun p => Lm.nodeA P T p.2) ++ l)) := H2.weak fun _ q => q.swap
  obtain ⟨l1, l2, e, h1, h2⟩ := getK_split hn h
  have hd : delK L r = l1 ++ l2 := by
    rw [e]; unfold delK
    rw [List.filter_append, List.filter_cons, List.filter_eq_self.2 fun p hp => by simp [h1 p hp], List.filter_eq_self.2 fun p hp => by simp [h2 p hp]]
    simp
  rw [hd] at H3 ⊢
  have H4 : SL W g w' ((Lm.blk u #[.int .i64 q1, .int .i64 q2, .map (some mb), .int .i64 nx] T.U :: mapA P T.kI mb (ptrsV (l1 ++ l2)) :: l1.map fun p => Lm.nodeA P T p.2) ++ Lm.nodeA P T n :: ((l2.map fun p => Lm.nodeA P T p.2) ++ l)) := by
    refine SL.cast H3 ?_
    rw [e]
    simp
  obtain ⟨_, _, _, _, H5⟩ := H4.mid.nodeO
  refine (H5.under fun h s => ?_)
  obtain ⟨k1, k2, ap, q, s1, s2⟩ := s
  refine ⟨k1, k2, ap, q, s1, ?_⟩
  have s3 : sats g ((Lm.blk u #[.int .i64 q1, .int .i64 q2, .map (some mb), .int .i64 nx] T.U :: mapA P T.kI mb (ptrsV (l1 ++ l2)) :: (l1 ++ l2).map fun p => Lm.nodeA P T p.2) ++ l) k2 := by
    simpa using s2
  obtain ⟨m1, m2, ap2, q2', s4, s5⟩ := s3.unapp
  exact ⟨m1, m2, ap2, q2', s4, s5⟩
end
theorem delK_setK {κ α : Type} [MKey κ] (l : List (κ × α)) (x : κ) (u : α) : delK (setK l x u) x = delK l x := by
  unfold delK setK
  induction l with
  | nil => rfl
  | cons p l ih =>
    by_cases e : p.1 = x
    · rw [List.map_cons, if_pos e, List.filter_cons, List.filter_cons]
      simp only [e, decide_true, Bool.not_true, Bool.false_eq_true, if_false]
      exact ih
    · rw [List.map_cons, if_neg e, List.filter_cons, List.filter_cons]
      simp only [e, decide_false, Bool.not_false, if_true]
      rw [ih]
end Go.Lm
