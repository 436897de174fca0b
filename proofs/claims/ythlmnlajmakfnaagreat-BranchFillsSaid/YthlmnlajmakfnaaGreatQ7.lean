/- Texts of mine, laid together: LmVzb LmYg U11. -/
import Derived.Test.YthlmnlajmakfnaaGreatQ6
import Derived.Test.YthlmnlajmakfnaaGreatQ4
import Derived.Sort.KeysCollected
import Derived.Sort.Walk0
import Derived.Test.YthlmnlajmakfnaaGreatProg
import Derived.Test.YthlmnlajmakfnaaGreatChecked
import Derived.Test.YthlmnlajmakfnaaGreatQ3
set_option linter.unusedVariables false
namespace Go.Lm
open Go Go.RowKit Go.Maps Go.WideShapes
section
variable {W : Base} {g w w' : World} {l : List Atom} {et : TypeId} {size n : Nat} {v : Value} {xs : List Value}
theorem SL.fresh (H : SL W g w l) (e : Le w w') (ho : w'.ownsRow w.heap.size et size v n xs) : SL W g w' (rowA et size v n xs :: l) := by
 obtain ⟨hl, ⟨rfl, rfl⟩ | ⟨k, cap, cur, rfl, hk, hb, r⟩⟩ := ho
 ·have : xs = [] := List.eq_nil_of_length_eq_zero (by simpa using hl)
  subst this
  exact (H.le e).rowNil et size
 ·obtain ⟨h, be, s, ow, t⟩ := H
  have hkn : h k = none := by
   cases hx : h k with
   | none => rfl
   | some x => have := at_lt (ow k x hx).2.1; omega
  have hni : NotIn g k := fun a ha => by
   cases hc : g.cell? a with
   | none => rfl
   | some x =>
    have h1 := World.block_lt_of_cell? w a (s.mono a x hc)
    omega
  refine ⟨Hp.join (fun j => if j = k then some (.cells cur et (0, 0)) else none) h, e.below' be, s.le e, fun j x hx => ?_, _, h, fun j => ?_, rfl, ⟨hl, .inr ⟨k, cap, cur, rfl, if_pos rfl, r⟩⟩, t⟩
  ·unfold Hp.join at hx
   by_cases q : j = k
   ·subst q
    simp at hx
    subst hx
    exact ⟨Nat.le_trans be.size hk, hb, hni⟩
   ·simp [q] at hx
    obtain ⟨o1, o2, o3⟩ := ow j x hx
    exact ⟨o1, e.keep o2, o3⟩
  ·by_cases q : j = k
   ·subst q; exact .inr hkn
   ·left; simp [q]
theorem strRows (g : World) : ∀ (l : List ByteArray), (∀ s ∈ l, s.size ≤ maxLen) → RelL g (l.map fun s => [Value.string s]) l
 | [], _ => trivial
 | s :: l, h => ⟨⟨rfl, h s (by simp)⟩, strRows g l fun x hx => h x (by simp [hx])⟩
end
structure SortedS (xs ks : List ByteArray) : Prop where
 perm : xs.Perm ks
 srt : xs.Pairwise fun a b => a.data.toList ≤ b.data.toList
def ofBytes (l : List UInt8) : ByteArray := ⟨l.toArray⟩
theorem ofBytes_eq (s : ByteArray) : ofBytes s.data.toList = s := by
 cases s; rfl
theorem sorted_names {ks : List ByteArray} {ss : List (List UInt8)} (h : ss.Perm (ks.map fun s => s.data.toList)) : SortedS ((ss.mergeSort fun x y => decide (x ≤ y)).map ofBytes) ks := by
 constructor
 ·have h1 := ((List.mergeSort_perm ss fun x y => decide (x ≤ y)).trans h).map ofBytes
  rw [List.map_map] at h1
  have : (ofBytes ∘ fun s : ByteArray => s.data.toList) = id := by funext s; exact ofBytes_eq s
  rw [this, List.map_id] at h1
  exact h1
 ·rw [List.pairwise_map]
  have h1 : (ss.mergeSort fun x y => decide (x ≤ y)).Pairwise fun x y => decide (x ≤ y) = true := List.pairwise_mergeSort (le := fun x y : List UInt8 => decide (x ≤ y)) (fun a b c h1 h2 => by
   simp only [decide_eq_true_eq] at h1 h2 ⊢
   exact List.le_trans h1 h2) (fun a b => by
   simp only [Bool.or_eq_true, decide_eq_true_eq]
   exact List.le_total a b) ss
  exact h1.imp fun h2 => by simpa [ofBytes] using h2
section
variable {P : Program} {I : Base → Prop} {f fk : FuncId} {Q : SV → List HO → Prop} {T : UTy} {q1 q2 nx : Int} {mb : Nat} {L : List (Int × LNode)}
theorem Wp.sortedKeys {tM : TypeId} {v : Value} (hkT : kk2 P T)
  (hC : ∀ (w : World) (u ib : Nat) (D0 : DataW Value), u < w.heap.size → w.cell? ⟨u, 0, none⟩ = some (.map (some ib)) → w.ownsMap P T.kS holdV ib (Maps.size D0) D0 → Maps.size D0 ≤ 1099511627776 →
   Calls P f #[.func (.func fk) #[] #[.pointer (some ⟨u, 0, none⟩)]] w fun e w' => ∃ (v : Value) (ss : List (List UInt8)), e = .returned v ∧ ss.Perm (strKeys D0) ∧ w'.ownsRow w.heap.size T.kS 1 v ss.length ((ss.mergeSort fun x y => decide (x ≤ y)).map Go.Proofs.encStr) ∧ Below w.heap.size w w')
  {r : Int} {m : LNode} (hg : getK L r = some m) (hv : m.vi = v) (hk : m.kind = 1) (hen : m.ents.length ≤ 1099511627776)
  (hq : ∀ xs, SortedS xs (m.ents.map (·.1)) → Q (.c (.o 2)) [.cells tM [.kl 1 v], .up T q1 q2 mb nx L, .sl T.kS .str xs]) :
  Wp I P f [.v (.c (.fn fk [.p 0 0]))] [.cells tM [.kl 1 v], .up T q1 q2 mb nx L] Q := by
 intro W hW g w E F vs S hvs
 obtain ⟨a, rfl, us, ⟨_, us', rfl, hu, hnil⟩, rfl⟩ := relVs_one hvs
 obtain ⟨h0, be, se, ow, k1, k2, ap, rfl, ⟨b, us, hE, hrel, hb⟩, k3, k4, ap2, rfl, ⟨u1, P', hE1, hkk, hin, hup⟩, s3⟩ := S.sl
 obtain ⟨_, us2, rfl, ⟨_, rfl, _⟩, hus⟩ := hrel
 obtain rfl : us2 = [] := hus
 obtain rfl : us' = [] := hnil
 obtain ⟨b', hE', rfl⟩ := hu
 rw [hE] at hE'
 obtain rfl : b = b' := by simpa [ptr] using hE'
 have hup' := upA_re hkk (kk2_ok.1 hkT) hup
 have hmap := (up_maps hup').2 r m hg
 have hpure : m.kind = 1 → ∃ b, m.vi = .map (some b) := by
  obtain ⟨h', i, s'⟩ := sats_mem (A := nodeA P T m) (List.mem_cons_of_mem _ (List.mem_cons_of_mem _ (List.mem_map.2 ⟨(r, m), getK_mem hg, rfl⟩))) hup'
  obtain ⟨h'', i2, _, s2⟩ := sats_mem (A := pureA (m.target.size ≤ maxLen ∧ (m.kind = 1 → ∃ b, m.vi = .map (some b)))) (by simp [nodeL]) s'
  exact s2
 obtain ⟨ib, hib⟩ := hpure hk
 subst hv
 rcases hmap with ⟨hno, _⟩ | ⟨ib', es, clock, e1, e2, rep⟩
 ·rw [hno] at hib; cases hib
 have hbb : w.heap[b]? = some (.cells #[m.vi] tM (0, 0)) := (ow b _ (Hp.join_left hb)).2.1
 have hmb : w.heap[ib']? = some (.map es clock) := by
  have a1 := Hp.apart_join.1 ap
  refine (ow ib' _ ?_).2.1
  rw [Hp.join_right ?_]
  ·exact Hp.join_left e2
  ·rcases a1.1 ib' with q | q
   ·exact q
   ·rw [e2] at q; cases q
 have hkeys : ∀ s ∈ m.ents.map (·.1), s.size ≤ maxLen := fun s hs => by
  obtain ⟨p, hp, rfl⟩ := List.mem_map.1 hs
  have h1 : ent (p.1, Value.int .i64 p.2) ∈ es.toList.map (Go.WideElems.rg P T.kS holdV) := rep.perm.mem_iff.2 (List.mem_map.2 ⟨_, List.mem_map.2 ⟨p, hp, rfl⟩, rfl⟩)
  obtain ⟨x, hx, hxe⟩ := List.mem_map.1 h1
  obtain ⟨kl, hkl, hrg⟩ := rg_val rep.fit hx
  rw [hrg] at hxe
  have : kl = MKey.lit p.1 := congrArg Prod.fst hxe
  subst this
  exact ((keyT_str hkT.2).inv _ _ hkl).2
 have hsz : es.size = m.ents.length := by rw [rep.size]; unfold entsV; simp
 have hD : Maps.size (H := Value) (.map ((es.toList.map (Go.WideElems.rg P T.kS holdV)).foldr DataW.insert [])) = m.ents.length := by
  show ((es.toList.map (Go.WideElems.rg P T.kS holdV)).foldr DataW.insert []).length = _
  rw [(sorted_perm _).length_eq, List.length_map]
  simpa using hsz
 have hcl : w.cell? ⟨b, 0, none⟩ = some (.map (some ib')) := by
  simp [World.cell?, hbb, e1]
 refine (hC w b ib' _ (at_lt hbb) hcl ⟨es, clock, hmb, rep.fit, ?_, rfl⟩ ?_).mono fun e w' ⟨v', ss, he, hp, hrow, hbel⟩ => ?_
 ·rw [hD]; omega
 ·rw [hD]; exact hen
 have hp2 : ss.Perm ((m.ents.map (·.1)).map fun s => s.data.toList) := by
  refine hp.trans ?_
  have h1 := ((sorted_perm (H := Value) (es.toList.map (Go.WideElems.rg P T.kS holdV))).trans rep.perm).map fun p => strOf p.1
  refine h1.trans (List.Perm.of_eq ?_)
  unfold entsV
  rw [List.map_map, List.map_map, List.map_map]
  rfl
 have hsort := sorted_names hp2
 have hlen : (ss.mergeSort fun x y => decide (x ≤ y)).length = ss.length := (List.mergeSort_perm ss _).length_eq
 refine ⟨v', he, E ++ [v'], g, .c (.o 2), _, EnvLe.app _ _, Mono.refl g, Sat.push (o := .sl T.kS .str ((ss.mergeSort fun x y => decide (x ≤ y)).map ofBytes)) S.len ?_, ?_, hq _ hsort⟩
 ·refine (S.sl.fresh hbel hrow).weak fun hh ⟨p1, p2, ap3, q3, sr, sF⟩ => ⟨p1, p2, ap3, q3, ⟨v', by rw [← S.len]; simp, ((ss.mergeSort fun x y => decide (x ≤ y)).map ofBytes).map (fun s => [Value.string s]), ?_, ?_⟩, sF⟩
  ·exact strRows g _ fun s hs => hkeys s (hsort.perm.mem_iff.1 hs)
  ·show (rowA T.kS 1 v' ((ss.mergeSort fun x y => decide (x ≤ y)).map ofBytes).length _).sat g p1
   rw [List.length_map, hlen]
   have e3 : (((ss.mergeSort fun x y => decide (x ≤ y)).map ofBytes).map (fun s => [Value.string s])).flatten = (ss.mergeSort fun x y => decide (x ≤ y)).map Go.Proofs.encStr := by
    rw [List.map_map]
    induction (ss.mergeSort fun x y => decide (x ≤ y)) with
    | nil => rfl
    | cons x l ih => rw [List.map_cons, List.flatten_cons, ih]; rfl
   rw [e3]
   exact sr
 ·refine ⟨by rw [show (2 : Nat) = E.length from S.len.symm]; simp, ?_⟩
  rcases hrow.2 with ⟨rfl, _⟩ | ⟨k, cap, cur, rfl, _⟩
  ·exact ⟨_, _, _, rfl⟩
  ·exact ⟨_, _, _, rfl⟩
end
end Go.Lm

namespace Go.Lm
open Go Go.RowKit
def UpY.new (a b : Int) : UpY := ⟨a, b, [([], 1, 1, (493, 0, 0, ()), [], ⟨#[]⟩, [], false, ())], [], 2⟩
theorem RepY.new (a b : Int) {bk ib : Nat} {vd vx : Value} : RepY [((1 : Int), (LNode.mk bk 1 493 0 0 vd [] ⟨#[]⟩ vx (List.map xaO []) false (Value.map (some ib)) [] 0 1))] (UpY.new a b) := by
 refine ⟨List.Perm.refl _, fun r n h => ?_⟩
 rw [getK_cons'] at h
 by_cases q : (1 : Int) = r
 ·rw [if_pos q] at h
  obtain rfl := Option.some.inj h
  subst q
  exact ⟨_, rfl, rfl, rfl, rfl, rfl, rfl, rfl, rfl, rfl, List.Perm.refl _, rfl, fun _ e he => by cases he⟩
 ·rw [if_neg q] at h; cases h
theorem new_wf (a b : Int) : (UpY.new a b).Wf where
 nd := by simp [UpY.new]
 lo := fun n hn => by
  have : n = _ := List.mem_singleton.1 hn
  subst this
  exact ⟨by decide, by show (1 : Int) < 2; decide⟩
 root := rfl
 nm := fun n hn => by
  have : n = _ := List.mem_singleton.1 hn
  subst this
  exact ⟨rfl, .inl rfl, by kernel_rfl⟩
 ne := by simp [UpY.new]
 dir := fun e he => by cases he
 ref := fun e he => by cases he
 has := fun n hn h => by
  have : n = _ := List.mem_singleton.1 hn
  subst this
  exact absurd rfl h
 one := fun e he => by cases he
 dep := ⟨fun _ => 0, fun e he => by cases he⟩
def insX (x : XeD) : List XeD → List XeD
 | [] => [x]
 | y :: l => if sLt x.1 y.1 then x :: y :: l else y :: insX x l
def UpY.xe (Y : UpY) (e : EnD) : XeD := (e.2.1, Y.kindOf e.2.2.1, e.2.2.1, ())
def UpY.listD (Y : UpY) (r : Int) : List XeD := if Y.dirE r = 0 then (Y.E.filter (ofD r)).foldl (fun out e => insX (Y.xe e) out) [] else []
theorem sLt_iff (a b : ByteArray) : sLt a b = decide (a.data.toList < b.data.toList) := by
 unfold sLt
 rw [Lib.toList_data, Lib.toList_data, Go.Proofs.bytesLess_eq]
abbrev leX (a b : XeD) : Prop := a.1.data.toList ≤ b.1.data.toList
theorem insX_perm (x : XeD) : ∀ l, (insX x l).Perm (x :: l)
 | [] => List.Perm.refl _
 | y :: l => by
  unfold insX
  split
  ·exact List.Perm.refl _
  ·exact ((insX_perm x l).cons y).trans (List.Perm.swap _ _ _)
theorem insX_sorted (x : XeD) : ∀ {l}, l.Pairwise leX → (insX x l).Pairwise leX
 | [], _ => by simp [insX]
 | y :: l, h => by
  obtain ⟨h1, h2⟩ := List.pairwise_cons.1 h
  unfold insX
  split
  ·rename_i hlt
   rw [sLt_iff, decide_eq_true_eq] at hlt
   have hxy : leX x y := List.le_of_lt hlt
   refine List.pairwise_cons.2 ⟨fun z hz => ?_, h⟩
   rcases List.mem_cons.1 hz with rfl | hz
   ·exact hxy
   ·exact List.le_trans hxy (h1 z hz)
  ·rename_i hlt
   rw [sLt_iff, decide_eq_true_eq] at hlt
   have hyx : leX y x := List.not_lt.1 hlt
   refine List.pairwise_cons.2 ⟨fun z hz => ?_, insX_sorted x h2⟩
   rcases List.mem_cons.1 ((insX_perm x l).mem_iff.1 hz) with rfl | hz
   ·exact hyx
   ·exact h1 z hz
theorem fold_insX (f : EnD → XeD) : ∀ (l : List EnD) (out : List XeD), out.Pairwise leX → (l.foldl (fun out e => insX (f e) out) out).Perm (l.map f ++ out) ∧ (l.foldl (fun out e => insX (f e) out) out).Pairwise leX
 | [], out, h => ⟨List.Perm.refl _, h⟩
 | e :: l, out, h => by
  obtain ⟨h1, h2⟩ := fold_insX f l (insX (f e) out) (insX_sorted _ h)
  refine ⟨h1.trans ?_, h2⟩
  rw [List.map_cons]
  exact ((insX_perm (f e) out).append_left (l.map f)).trans List.perm_middle
def xeOf (Y : UpY) (m : LNode) (s : ByteArray) : XeD := (s, Y.kindOf ((getK m.ents s).getD 0), (getK m.ents s).getD 0, ())
theorem list_eq {Y : UpY} (w : Y.Wf) {r : Int} {m : LNode} {y : NoD} (hN : RepN Y r m y) (hd : Y.dirE r = 0) {xs : List ByteArray} (h : SortedS xs (m.ents.map (·.1))) : xs.map (xeOf Y m) = Y.listD r := by
 unfold UpY.listD
 rw [if_pos hd]
 obtain ⟨h1, h2⟩ := fold_insX Y.xe (Y.E.filter (ofD r)) [] List.Pairwise.nil
 rw [List.append_nil] at h1
 have hp : (xs.map (xeOf Y m)).Perm ((Y.E.filter (ofD r)).map Y.xe) := by
  refine (h.perm.map _).trans ?_
  rw [List.map_map]
  have e1 : m.ents.map (xeOf Y m ∘ fun p => p.1) = m.ents.map fun p => ((p.1, Y.kindOf p.2, p.2, ()) : XeD) := List.map_congr_left fun p hp => by
   have := getK_of_mem (ents_nodup w hN) (x := p.1) (v := p.2) hp
   simp only [Function.comp, xeOf, this, Option.getD_some]
  rw [e1]
  refine (hN.ents.map _).trans (List.Perm.of_eq ?_)
  rw [List.map_map]; rfl
 refine List.Perm.eq_of_pairwise (le := leX) (fun a b ha hb h3 h4 => ?_) ?_ h2 (hp.trans h1.symm)
 ·have e : a.1 = b.1 := by
   have := List.le_antisymm h3 h4
   rw [← ofBytes_eq a.1, ← ofBytes_eq b.1, this]
  obtain ⟨s, _, rfl⟩ := List.mem_map.1 ha
  obtain ⟨s', _, rfl⟩ := List.mem_map.1 ((hp.trans h1.symm).mem_iff.2 hb)
  have : s = s' := e
  rw [this]
 ·rw [List.pairwise_map]
  exact h.srt
theorem ixD_get {e : Ty} {l : List e.den} {i : Int} (h0 : 0 ≤ i) (h : i < l.length) : ixD e l i = l[i.toNat]'(by omega) := by
 unfold ixD
 rw [List.getD_eq_getElem?_getD, List.getElem?_eq_getElem (by omega)]; rfl
theorem ixD_take {e : Ty} {l : List e.den} {i : Int} (h0 : 0 ≤ i) (h : i < l.length) : l.take (i + 1).toNat = l.take i.toNat ++ [ixD e l i] := by
 rw [ixD_get h0 h, show (i + 1).toNat = i.toNat + 1 by omega, List.take_succ_eq_append_getElem (by omega)]
theorem ixD_mem {e : Ty} {l : List e.den} {i : Int} (h0 : 0 ≤ i) (h : i < l.length) : ixD e l i ∈ l := by
 rw [ixD_get h0 h]; exact List.getElem_mem _
theorem take_allI {α : Type} {l : List α} {i : Int} (h : ¬ i < l.length) : l.take i.toNat = l := List.take_of_length_le (by omega)
end Go.Lm

namespace Go.Proofs
open Go Go.Lm Go.RowKit
set_option maxRecDepth 1000000
def c_newu : Ct
 | [.v (.agg cq)], [], Q => (match (quTy).of cq with
  | some (q, []) => Q (.c (.p 0 0)) [.ab (.upr ⟨84, 81, 3, 9⟩ (UpY.new q.1 q.2.1))]
  | _ => False)
 | _, _, _ => False
noncomputable def XU1134 : Vx := { P := Tryz.prog, ct := [(31, c_over), (21, c_used), (17, c_remove), (59, c_let), (59, c_letz), (38, c_move), (32, c_link), (23, c_make), (25, c_xattrs), (24, c_read), (16, c_write), (41, c_resize), (45, c_setx), (47, c_setopq), (43, c_setattr), (88, c_within), (68, c_fresh), (69, c_good), (93, c_mayx), (113, c_bindex), (125, c_sindex), (70, c_attrs), (114, c_sclone), (112, c_valid), (55, c_bclone), (57, c_sized), (91, c_may), (101, c_opq), (97, c_target), (22, c_look), (33, c_stat), (67, c_entry), (56, c_file), (58, c_dir), (71, c_at)], ty := tyTab, hold := [], um := some ⟨84, 81, 3, 9⟩ }
theorem XU1134_ok : CtOk Inv Tryz.prog XU1134.ct := CtOk.cons w_over (CtOk.cons w_used (CtOk.cons w_remove (CtOk.cons w_let (CtOk.cons w_letz (CtOk.cons w_move (CtOk.cons w_link (CtOk.cons w_make (CtOk.cons w_xattrs (CtOk.cons w_read (CtOk.cons w_write (CtOk.cons w_resize (CtOk.cons w_setx (CtOk.cons w_setopq (CtOk.cons w_setattr (CtOk.cons w_within (CtOk.cons w_fresh (CtOk.cons w_good (CtOk.cons w_mayx (CtOk.cons w_bindex (CtOk.cons w_sindex (CtOk.cons w_attrs (CtOk.cons w_sclone (CtOk.cons w_valid (CtOk.cons w_bclone (CtOk.cons w_sized (CtOk.cons w_may (CtOk.cons w_opq (CtOk.cons w_target (CtOk.cons w_look (CtOk.cons w_stat (CtOk.cons w_entry (CtOk.cons w_file (CtOk.cons w_dir (CtOk.cons w_at (CtOk.nil _ _)))))))))))))))))))))))))))))))))))
def vc_newu : ((quTy).den) → (SV → List HO → Prop) → Prop :=
 fun q Q => inK .i64 q.1 → inK .i64 q.2.1 → ∀ (mb bk : Nat) (vd vx : Value) (ib : Nat), Value.map (some mb) = Value.map (some mb) ∧ getK ([] : List (Int × LNode)) (1 : Int) = none ∧ (0 : Nat) < (9223372036854775807 : Nat) ∧ Q (SV.v (S1.c (.p 
 0 0))) [.cells 84 [.k (.int .i64 q.1), .k (.int .i64 q.2.1), Cl.kl (1 : Nat) (Value.map (some mb)), .k (.int .i64 2)], HO.ab (AbK.um (UTy.mk (84 : TypeId) (81 : TypeId) (3 : TypeId) (9 : TypeId)) mb [((1 : Int), LNode.mk bk (1 : Int) (493 : 
 Int) (0 : Int) (0 : Int) vd [] (ByteArray.mk #[]) vx (List.map xaO []) false (Value.map (some ib)) [] (0 : Int) (1 : Int))])]
theorem vc_newu_eq (q : (quTy).den) (Q : SV → List HO → Prop) : vFun XU1134 ⟨[], []⟩ Tryz.f9 [.v (.agg (Ty.cells quTy q))] [] Q = vc_newu q Q := by kernel_rfl
theorem w_newu : ∀ args H Q, c_newu args H Q → Wp Inv Tryz.prog 9 args H Q := by
 intro args H Q h
 unfold c_newu at h
 split at h
 rotate_left
 ·exact h.elim
 rename_i cq
 split at h
 rotate_left
 ·exact h.elim
 rename_i q hq
 refine Wp.said (args' := [.v (.agg (Ty.cells quTy q))]) (fun E g => RelVs.cons1 (of_row hq) (fun _ h => h)) ?_
 clear hq
 refine (fun hh => Wp.sel (Wp.upNew (T := ⟨84, 81, 3, 9⟩) (p := 0) (l := 1) hh)) ?_
 refine Wp.enter (X := XU1134) XU1134_ok ⟨[], []⟩ (fn := Tryz.f9) (by kernel_rfl) ?_
 refine Eq.mpr (vc_newu_eq q _) ?_
 unfold vc_newu
 intro _ _ mb bk vd vx ib
 refine ⟨rfl, rfl, by decide, q.1, q.2.1, mb, 2, _, UpY.new q.1 q.2.1, by decide, rfl, rfl, ⟨rfl, rfl, rfl, rfl, RepY.new q.1 q.2.1⟩, [0], rfl, by simp, by simp, ?_⟩
 exact h
end Go.Proofs

