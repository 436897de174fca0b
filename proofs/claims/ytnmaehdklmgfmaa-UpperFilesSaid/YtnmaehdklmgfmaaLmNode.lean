/- A node of a tree, and its further attributes, as data: their fields, one by one. General: no program in sight. -/
import Derived.Test.YtnmaehdklmgfmaaLmStruct
namespace Go.Lm
open Go Go.RowKit
abbrev XattrD := St (ByteArray × List UInt8 × PUnit)
abbrev AttrD := St (Int × Int × Int × PUnit)
abbrev NodeD := St (List ByteArray × Int × Int × AttrD × List UInt8 × ByteArray × List XattrD × Bool × PUnit)
namespace NodeD
def names (x : NodeD) : List ByteArray := x.v.1
def ino (x : NodeD) : Int := x.v.2.1
def kind (x : NodeD) : Int := x.v.2.2.1
def attr (x : NodeD) : AttrD := x.v.2.2.2.1
def mode (x : NodeD) : Int := x.attr.v.1
def uid (x : NodeD) : Int := x.attr.v.2.1
def gid (x : NodeD) : Int := x.attr.v.2.2.1
def data (x : NodeD) : List UInt8 := x.v.2.2.2.2.1
def target (x : NodeD) : ByteArray := x.v.2.2.2.2.2.1
def xattrs (x : NodeD) : List XattrD := x.v.2.2.2.2.2.2.1
def opq (x : NodeD) : Bool := x.v.2.2.2.2.2.2.2.1
end NodeD
def XattrD.name (x : XattrD) : ByteArray := x.v.1
def XattrD.value (x : XattrD) : List UInt8 := x.v.2.1
theorem xattr_row {w : World} {v : Value} {x : XattrD} : Is w v x ↔ ∃ u, v = .agg #[.string x.v.1, u] ∧ x.v.1.size ≤ maxLen ∧ Is w u x.v.2.1 := by
  rw [is_st]
  constructor
  · rintro ⟨⟨cs⟩, rfl, h⟩
    obtain ⟨c2, e1, hs, h⟩ := row_str.1 h
    obtain ⟨u, c3, rfl, hu, h⟩ := row_list.1 h
    obtain rfl := row_nil.1 h
    have e : cs = [.string x.v.1, u] := e1
    subst e
    exact ⟨u, rfl, hs, hu⟩
  · rintro ⟨u, rfl, hs, hu⟩
    exact ⟨_, rfl, row_str.2 ⟨[u], rfl, hs, row_list.2 ⟨u, [], rfl, hu, row_nil.2 rfl⟩⟩⟩
theorem node_row {w : World} {v : Value} {x : NodeD} : Is w v x ↔ ∃ vn vd vx, v = .agg #[vn, .int .i64 x.ino, .int .i64 x.kind, .int .i64 x.mode, .int .i64 x.uid, .int .i64 x.gid, vd, .string x.target, vx, .bool x.opq] ∧
    Is w vn x.names ∧ Is w vd x.data ∧ Is w vx x.xattrs ∧ x.target.size ≤ maxLen ∧ (Lit.int .i64 x.ino).wf = true ∧ (Lit.int .i64 x.kind).wf = true ∧ (Lit.int .i64 x.mode).wf = true ∧ (Lit.int .i64 x.uid).wf = true ∧ (Lit.int .i64 x.gid).wf = true := by
  rw [is_st]
  constructor
  · rintro ⟨⟨cs⟩, rfl, h⟩
    obtain ⟨vn, c1, e1, hn, h⟩ := row_list.1 h
    obtain ⟨c2, rfl, i1, h⟩ := row_int.1 h
    obtain ⟨c3, rfl, i2, h⟩ := row_int.1 h
    obtain ⟨ca, c4, rfl, ha, q4⟩ := row_st.1 h
    obtain ⟨a1, rfl, i3, ha⟩ := row_int.1 ha
    obtain ⟨a2, rfl, i4, ha⟩ := row_int.1 ha
    obtain ⟨a3, rfl, i5, ha⟩ := row_int.1 ha
    obtain rfl := row_nil.1 ha
    obtain ⟨vd, c5, rfl, hd, q5⟩ := row_list.1 q4
    obtain ⟨c6, rfl, ht, q6⟩ := row_str.1 q5
    obtain ⟨vx, c7, rfl, hx, q7⟩ := row_list.1 q6
    obtain ⟨c8, rfl, q8⟩ := row_bool.1 q7
    obtain rfl := row_nil.1 q8
    have e : cs = _ := e1
    subst e
    exact ⟨vn, vd, vx, rfl, hn, hd, hx, ht, i1, i2, i3, i4, i5⟩
  · rintro ⟨vn, vd, vx, rfl, hn, hd, hx, ht, i1, i2, i3, i4, i5⟩
    refine ⟨_, rfl, row_list.2 ⟨vn, _, rfl, hn, row_int.2 ⟨_, rfl, i1, row_int.2 ⟨_, rfl, i2, row_st.2 ⟨[.int .i64 x.mode, .int .i64 x.uid, .int .i64 x.gid], [vd, .string x.target, vx, .bool x.opq], rfl, row_int.2 ⟨_, rfl, i3, row_int.2 ⟨_, rfl, i4, row_int.2 ⟨_, rfl, i5, row_nil.2 rfl⟩⟩⟩, ?_⟩⟩⟩⟩⟩
    exact row_list.2 ⟨vd, _, rfl, hd, row_str.2 ⟨_, rfl, ht, row_list.2 ⟨vx, _, rfl, hx, row_bool.2 ⟨_, rfl, row_nil.2 rfl⟩⟩⟩⟩
/-! ### An element is read; what is held fixed tells of it -/
theorem run_load_at {P : Program} {α : Type} [GoRep α] {g w : World} {e : TypeId} {d : TypeDesc} {v : Value} {xs : List α} {i : Int} (h : Is g v xs) (hm : Mono g w) (h0 : 0 ≤ i) (h1 : i < xs.length) (hu : P.underlying e = some d) (ha : d.isRow = GoRep.agg α) (hone : GoRep.agg α = false → GoRep.size α = 1)
    (hs : (P.info? e).map (·.size) = some (GoRep.size α)) : ∃ u, (Instr.loadAt e (elemP (GoRep.size α) v i)).run P w = .ok u w ∧ Is g u (xs[i.toNat]'(by omega)) := by
  rcases is_list.1 h with ⟨rfl, rfl⟩ | ⟨a, cap, rfl, _, _, h3⟩
  · simp at h1; omega
  · obtain ⟨cs, hc, hr⟩ := h3 i.toNat _ (List.getElem?_eq_getElem (by omega))
    have hlen := GoRep.len hr
    have hcell : ∀ j c, cs[j]? = some c → w.cell? ((a.add (i.toNat * GoRep.size α)).add j) = some c := fun j c hj => by rw [Go.Deep.add_add]; exact hm _ _ (hc j c hj)
    cases hg : GoRep.agg α with
    | false =>
      have h1' := hone hg
      match cs, hlen.trans h1' with
      | [c], _ =>
        refine ⟨c, ?_, by unfold Is; rw [if_neg (by rw [hg]; simp)]; exact hr⟩
        have h2 := hcell 0 c rfl
        have hagg : (isAgg e).run P w = .ok false w := by
          unfold isAgg
          rw [Sem.run_bind, run_underlying hu w]
          rw [hg] at ha
          cases d <;> simp_all
        have e0 : (a.add (i.toNat * GoRep.size α)).add 0 = a.add (i.toNat * GoRep.size α) := by simp [Addr.add]
        rw [e0] at h2
        simp [elemP, Instr.loadAt, Instr.sureAddr, loadVar, hagg, run_load, h2]
    | true =>
      refine ⟨.agg cs.toArray, ?_, by unfold Is; rw [if_pos hg]; exact ⟨cs.toArray, rfl, by simpa using hr⟩⟩
      cases hq : P.info? e with
      | none => simp [hq] at hs
      | some ie =>
        have hsz : ie.size = cs.length := by rw [hlen]; simpa [hq] using hs
        have hagg : (isAgg e).run P w = .ok true w := by
          unfold isAgg
          rw [Sem.run_bind, run_underlying hu w]
          rw [hg] at ha
          cases d <;> simp_all
        have hl := run_loadCells_list (P := P) w (a.add (i.toNat * GoRep.size α)) cs hcell
        simp [elemP, Instr.loadAt, Instr.sureAddr, loadVar, hagg, sizeOf, typeInfo, hq, hsz, hl]
instance : Inhabited XattrD := ⟨⟨(⟨#[]⟩, [], ⟨⟩)⟩⟩
instance : Inhabited NodeD := ⟨⟨([], 0, 0, ⟨(0, 0, 0, ⟨⟩)⟩, [], ⟨#[]⟩, [], false, ⟨⟩)⟩⟩
theorem load_node {P : Program} {g w : World} {e : TypeId} {fs : Array Field} {v : Value} {xs : List NodeD} {i : Int} (h : Is g v xs) (hm : Mono g w) (h0 : 0 ≤ i) (h1 : i < xs.length) (hu : P.underlying e = some (.struct fs)) (hs : (P.info? e).map (·.size) = some 10) :
    ∃ vn vd vx, (Instr.loadAt e (elemP 10 v i)).run P w = .ok (.agg #[vn, .int .i64 (nth xs i).ino, .int .i64 (nth xs i).kind, .int .i64 (nth xs i).mode, .int .i64 (nth xs i).uid, .int .i64 (nth xs i).gid, vd, .string (nth xs i).target, vx, .bool (nth xs i).opq]) w ∧
      Is g vn (nth xs i).names ∧ Is g vd (nth xs i).data ∧ Is g vx (nth xs i).xattrs ∧ (nth xs i).target.size ≤ maxLen := by
  obtain ⟨u, hr, hi⟩ := run_load_at (P := P) (e := e) h hm h0 h1 hu rfl (fun h => by cases h) hs
  rw [← nth_eq (by omega)] at hi
  obtain ⟨vn, vd, vx, rfl, h2, h3, h4, h5, _⟩ := node_row.1 hi
  exact ⟨vn, vd, vx, hr, h2, h3, h4, h5⟩
theorem load_xattr {P : Program} {g w : World} {e : TypeId} {fs : Array Field} {v : Value} {xs : List XattrD} {i : Int} (h : Is g v xs) (hm : Mono g w) (h0 : 0 ≤ i) (h1 : i < xs.length) (hu : P.underlying e = some (.struct fs)) (hs : (P.info? e).map (·.size) = some 2) :
    ∃ u, (Instr.loadAt e (elemP 2 v i)).run P w = .ok (.agg #[.string (nth xs i).v.1, u]) w ∧ Is g u (nth xs i).v.2.1 ∧ (nth xs i).v.1.size ≤ maxLen := by
  obtain ⟨u, hr, hi⟩ := run_load_at (P := P) (e := e) h hm h0 h1 hu rfl (fun h => by cases h) hs
  rw [← nth_eq (by omega)] at hi
  obtain ⟨u', rfl, h2, h3⟩ := xattr_row.1 hi
  exact ⟨u', hr, h3, h2⟩
end Go.Lm
