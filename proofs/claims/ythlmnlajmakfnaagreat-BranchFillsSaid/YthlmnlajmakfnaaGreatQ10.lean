/- Texts of mine, laid together: KL KM B16 B17. -/
import Derived.Test.YthlmnlajmakfnaaGreatQ9
import Derived.Test.YthlmnlajmakfnaaGreatProg
import Derived.Test.YthlmnlajmakfnaaGreatChecked
import Derived.Test.YthlmnlajmakfnaaGreatQ3
set_option linter.unusedVariables false
namespace Go.Proofs
open Go Go.Lm Go.RowKit
set_option maxRecDepth 1000000
theorem sEq_iff {a b : ByteArray} : sEq a b = true ↔ a = b := by
 unfold sEq
 rw [beq_iff_eq, Lib.toList_data, Lib.toList_data]
 exact ⟨fun h => Go.LmN.ba_ext h, fun h => by rw [h]⟩
theorem eqB_iff {a b : List UInt8} : eqB a b = true ↔ a = b := by
 unfold eqB
 rw [sEq_iff]
 constructor
 ·intro h
  have h1 : (bstr a).data.toList = (bstr b).data.toList := by rw [h]
  simpa [bstr] using h1
 ·intro h; rw [h]
theorem alikeX_iff {x y : XaD} : alikeX x y = true ↔ x = y := by
 obtain ⟨a, b, u⟩ := x
 obtain ⟨c, d, v⟩ := y
 unfold alikeX
 rw [Bool.and_eq_true, sEq_iff, eqB_iff]
 simp
theorem alikeXs_iff : ∀ {a b : List XaD}, alikeXs a b = true ↔ a = b
 | [], [] => by simp [alikeXs]
 | [], _ :: _ => by simp [alikeXs]
 | _ :: _, [] => by simp [alikeXs]
 | x :: a, y :: b => by
  unfold alikeXs
  rw [Bool.and_eq_true, alikeX_iff, alikeXs_iff]
  simp
theorem alikeN_iff {x y : NoD} : alikeN x y = true ↔ x.2.2 = y.2.2 := by
 obtain ⟨p, i, k, ⟨m, u, g, u1⟩, d, t, xs, o, u2⟩ := x
 obtain ⟨p', i', k', ⟨m', u', g', u1'⟩, d', t', xs', o', u2'⟩ := y
 unfold alikeN
 simp only [Bool.and_eq_true, sEq_iff, eqB_iff, alikeXs_iff, beq_iff_eq, Bool.and_true, Prod.mk.injEq]
 constructor
 ·rintro ⟨h1, ⟨h2, h3, h4⟩, h5, h6, h7, h8⟩
  exact ⟨h1, ⟨h2, h3, h4, trivial⟩, h7, h5, h8, h6, trivial⟩
 ·rintro ⟨h1, ⟨h2, h3, h4, _⟩, h7, h5, h8, h6, _⟩
  exact ⟨h1, ⟨h2, h3, h4⟩, h5, h6, h7, h8⟩
theorem sameN_iff : ∀ {a b : List ByteArray}, sameN a b = true ↔ a = b
 | [], [] => by simp [sameN]
 | [], _ :: _ => by simp [sameN]
 | _ :: _, [] => by simp [sameN]
 | x :: a, y :: b => by
  unfold sameN
  rw [Bool.and_eq_true, sEq_iff, sameN_iff]
  simp
theorem kget_same {k : Kk} {α : Type} {l : List (k.den × α)} {x : k.den} {v : α} : Kk.get k (Kk.put k l x v) x = some v := by
 unfold Kk.get Kk.put getK putK
 simp
theorem kget_ne {k : Kk} {α : Type} {l : List (k.den × α)} {x y : k.den} {v : α} (h : y ≠ x) : Kk.get k (Kk.put k l x v) y = Kk.get k l y := by
 unfold Kk.get Kk.put getK putK delK
 have h' : ¬ x = y := fun e => h e.symm
 rw [List.find?_cons]
 simp only [h', decide_false, List.find?_filter]
 congr 2
 funext p
 by_cases h2 : p.1 = y
 ·simp [h2, h]
 ·simp [h2]
def pairG {α : Type} (R : α → α → Bool) : List α → List α → Bool
 | _, [] => false
 | pre, x :: r => pre.any (R x) || pairG R (pre ++ [x]) r
theorem pairG_iff {α : Type} {R : α → α → Bool} : ∀ {r pre : List α}, pairG R pre r = false ↔ (∀ y ∈ pre, ∀ x ∈ r, R x y = false) ∧ r.Pairwise fun a b => R b a = false
 | [], pre => by simp [pairG]
 | x :: r, pre => by
  unfold pairG
  rw [Bool.or_eq_false_iff, pairG_iff (r := r), List.any_eq_false, List.pairwise_cons]
  constructor
  ·rintro ⟨h1, h2, h3⟩
   refine ⟨fun y hy z hz => ?_, fun z hz => h2 x (by simp) z hz, h3⟩
   rcases List.mem_cons.1 hz with rfl | hz
   ·simpa using h1 y hy
   ·exact h2 y (by simp [hy]) z hz
  ·rintro ⟨h1, h2, h3⟩
   refine ⟨fun y hy => by simp [h1 y hy x (by simp)], fun y hy z hz => ?_, h3⟩
   rcases List.mem_append.1 hy with hy | hy
   ·exact h1 y hy z (by simp [hz])
   ·obtain rfl : y = x := by simpa using hy
    exact h2 z hz
theorem linksGo_pair : ∀ {r pre : List NoD}, linksGo pre r = pairG badL pre r
 | [], _ => rfl
 | x :: r, pre => by unfold linksGo pairG; rw [linksGo_pair (r := r)]
theorem linksGo_iff {l : List NoD} : linksGo [] l = false ↔ l.Pairwise fun a b => badL b a = false := by
 rw [linksGo_pair, pairG_iff]; simp
theorem idxF_pre {α : Type} {p : α → Bool} {x : α} {r : List α} (hx : p x = true) : ∀ {pre : List α} {k : Int}, decide (idxF p (pre ++ x :: r) k < k + pre.length) = pre.any p
 | [], k => by simp [idxF, hx]
 | y :: pre, k => by
  rw [List.cons_append, List.any_cons]
  unfold idxF
  by_cases hy : p y = true
  ·rw [if_pos hy, hy]; simp; omega
  ·rw [if_neg hy]
   have := idxF_pre (r := r) hx (pre := pre) (k := k + 1)
   rw [show p y = false by simpa using hy, Bool.false_or, ← this, List.length_cons, decide_eq_decide]
   omega
theorem isNm_self (x : NoD) : isNm x.1 x = true := by unfold isNm; exact sameN_iff.2 rfl
theorem twiceGo_pair : ∀ {r pre : List NoD}, twiceGo (pre ++ r) r pre.length = pairG (fun x y => isNm x.1 y) pre r
 | [], _ => rfl
 | x :: r, pre => by
  unfold twiceGo pairG
  have h1 := idxF_pre (p := isNm x.1) (x := x) (r := r) (isNm_self x) (pre := pre) (k := 0)
  rw [Int.zero_add] at h1
  have h2 := twiceGo_pair (r := r) (pre := pre ++ [x])
  rw [List.append_assoc, List.length_append] at h2
  rw [h1, ← h2]; rfl
theorem twiceGo_iff {l : List NoD} : twiceGo l l 0 = false ↔ l.Pairwise fun a b => a.1 ≠ b.1 := by
 have h := twiceGo_pair (r := l) (pre := [])
 have e : twiceGo l l 0 = pairG (fun x y => isNm x.1 y) [] l := h
 rw [e, pairG_iff]
 have : ∀ a b : NoD, isNm b.1 a = false ↔ a.1 ≠ b.1 := fun a b => by
  unfold isNm
  rw [← Bool.not_eq_true, sameN_iff]
 simp [this]
def okNames (l : List NoD) : Prop := ∀ x ∈ l, ∀ s ∈ x.1, validN s = 0
theorem joinP_inj {p q : List ByteArray} (hp : ∀ s ∈ p, validN s = 0) (hq : ∀ s ∈ q, validN s = 0) (h : joinP p = joinP q) : p = q := by
 have e := Go.LmN.join_inj (p := p) (q := q) (fun s hs => by rw [validN_old]; exact hp s hs) (fun s hs => by rw [validN_old]; exact hq s hs)
 rw [show Go.LmN.joinN p = Go.LmN.joinN q from h, beq_self_eq_true, Go.LmN.sameL_key] at e
 exact Go.LmN.key_eq.1 (of_decide_eq_true e.symm)
theorem mapGo_some : ∀ {l : List NoD} {m : List (ByteArray × NoD)}, okNames l → ((mapGo l m).isSome = true ↔ (l.Pairwise fun a b => a.1 ≠ b.1) ∧ ∀ x ∈ l, Kk.get .str m (joinP x.1) = none)
 | [], m, _ => by simp [mapGo]
 | x :: r, m, ok => by
  have okr : okNames r := fun y hy => ok y (List.mem_cons_of_mem _ hy)
  unfold mapGo
  cases hg : Kk.get .str m (joinP x.1) with
  | some o =>
   rw [if_pos (show (some o).isSome = true from rfl)]
   constructor
   ·intro h; cases h
   ·rintro ⟨_, h⟩
    have := h x List.mem_cons_self
    rw [hg] at this; cases this
  | none =>
   rw [if_neg (by simp), mapGo_some okr, List.pairwise_cons]
   constructor
   ·rintro ⟨h1, h2⟩
    refine ⟨⟨fun y hy e => ?_, h1⟩, fun y hy => ?_⟩
    ·have := h2 y hy
     rw [← e, kget_same] at this; cases this
    ·rcases List.mem_cons.1 hy with rfl | hy
     ·exact hg
     ·have := h2 y hy
      by_cases e : joinP y.1 = joinP x.1
      ·rw [e, kget_same] at this; cases this
      ·rwa [kget_ne (k := .str) e] at this
   ·rintro ⟨⟨h1, h2⟩, h3⟩
    refine ⟨h2, fun y hy => ?_⟩
    rw [kget_ne (k := .str) fun e => h1 y hy (joinP_inj (ok x List.mem_cons_self) (okr y hy) e.symm)]
    exact h3 y (List.mem_cons_of_mem _ hy)
theorem mapGo_get : ∀ {l : List NoD} {m m' : List (ByteArray × NoD)}, okNames l → mapGo l m = some m' → ∀ p : List ByteArray, (∀ s ∈ p, validN s = 0) → Kk.get .str m' (joinP p) = match l.find? (isNm p) with
   | some x => some x
   | none => Kk.get .str m (joinP p)
 | [], m, m', _, h, p, _ => by
  obtain rfl : m = m' := Option.some.inj h
  rfl
 | x :: r, m, m', ok, h, p, hp => by
  have okr : okNames r := fun y hy => ok y (List.mem_cons_of_mem _ hy)
  have hs := (mapGo_some ok).1 (by rw [h]; rfl)
  unfold mapGo at h
  split at h
  ·cases h
  ·rw [mapGo_get okr h p hp, List.find?_cons]
   by_cases e : x.1 = p
   ·subst e
    rw [isNm_self]
    have : r.find? (isNm x.1) = none := by
     rw [List.find?_eq_none]
     intro y hy hn
     unfold isNm at hn
     exact (List.pairwise_cons.1 hs.1).1 y hy (sameN_iff.1 hn).symm
    rw [this]
    exact kget_same
   ·have hn : isNm p x = false := by
     unfold isNm
     rw [← Bool.not_eq_true, sameN_iff]; exact e
    rw [hn]
    cases r.find? (isNm p) with
    | some y => rfl
    | none => exact kget_ne fun q => e (joinP_inj (ok x List.mem_cons_self) hp q.symm)
theorem plain_kind1 (x : NoD) : ((plainN x).2.2.1 == 1) = (x.2.2.1 == 1) := by
 unfold plainN
 by_cases h : x.2.2.1 = 4
 ·simp [h]
 ·simp [h]
theorem plain_same {x : NoD} (h1 : x.2.2.1 ≠ 1) (h4 : x.2.2.1 ≠ 4) : plainN x = x := by
 unfold plainN
 rw [if_neg h1, if_neg h4]
theorem find_plain (p : List ByteArray) (l : List NoD) : (l.map plainN).find? (isNm p) = (l.find? (isNm p)).map plainN := by
 rw [List.find?_map]; rfl
theorem isDir_plain (p : List ByteArray) (l : List NoD) : isDirB (l.map plainN) p = isDirB l p := by
 unfold isDirB
 rw [find_plain]
 cases l.find? (isNm p) with
 | none => rfl
 | some x => exact plain_kind1 x
theorem names_plain : ∀ l : List NoD, namesGo (l.map plainN) = namesGo l
 | [] => rfl
 | x :: r => by rw [List.map_cons]; unfold namesGo; rw [names_plain r]; rfl
theorem deep_plain (l : List NoD) : deepB (l.map plainN) = deepB l := by
 unfold deepB
 rw [List.any_map]; rfl
theorem pair_plain (l : List NoD) : ((l.map plainN).Pairwise fun a b => a.1 ≠ b.1) ↔ l.Pairwise fun a b => a.1 ≠ b.1 := List.pairwise_map
theorem named_eq (l : List NoD) : namedE (l.map plainN) = namedR l := by
 unfold namedE namedR
 rw [names_plain, deep_plain]
 by_cases h1 : (namesGo l != 0) = true
 ·rw [if_pos h1, if_pos h1]
 ·rw [if_neg h1, if_neg h1]
  have ok : okNames l := names_valid (by simpa using h1)
  have okp : okNames (l.map plainN) := fun x hx => by
   obtain ⟨y, hy, rfl⟩ := List.mem_map.1 hx
   exact ok y hy
  have e1 := mapGo_some (m := []) okp
  have e2 := twiceGo_iff (l := l)
  rw [pair_plain] at e1
  have e : (mapGo (l.map plainN) []).isNone = twiceGo l l 0 := by
   cases h : twiceGo l l 0 with
   | false =>
    have := e1.2 ⟨e2.1 h, fun x _ => rfl⟩
    cases h2 : mapGo (l.map plainN) [] with
    | none => rw [h2] at this; cases this
    | some m => rfl
   | true =>
    cases h2 : mapGo (l.map plainN) [] with
    | none => rfl
    | some m =>
     have := e2.2 (e1.1 (by rw [h2]; rfl)).1
     rw [h] at this; cases this
  rw [e]
theorem kind_at {l : List NoD} (h : namedE (l.map plainN) = 0) {p : List ByteArray} (hp : ∀ s ∈ p, validN s = 0) : (kindAt (byPath (l.map plainN)) p != 1) = !isDirB l p := by
 obtain ⟨hN, hD, hs⟩ := namedE_0 (l := l.map plainN) (by rw [h]; rfl)
 have ok : okNames (l.map plainN) := names_valid hN
 cases hm : mapGo (l.map plainN) [] with
 | none => rw [hm] at hs; cases hs
 | some m =>
  have e : byPath (l.map plainN) = m := by unfold byPath; rw [hm]; rfl
  have hg := mapGo_get ok hm p hp
  rw [e, ← isDir_plain]
  unfold kindAt isDirB
  rw [hg]
  cases (l.map plainN).find? (isNm p) with
  | none => rfl
  | some x => rfl
theorem par_eq {l : List NoD} (h : namedE (l.map plainN) = 0) : parB (byPath (l.map plainN)) (l.map plainN) = upB l := by
 obtain ⟨hN, _, _⟩ := namedE_0 (l := l.map plainN) (by rw [h]; rfl)
 rw [names_plain] at hN
 have ok := names_valid hN
 unfold parB upB
 rw [List.any_map]
 have key : ∀ r : List NoD, (∀ x ∈ r, x ∈ l) → (r.any ((fun x : NoD => decide ((x.1.length : Int) - 1 ≥ 0) && (kindAt (byPath (l.map plainN)) (x.1.take (x.1.length - 1)) != 1)) ∘ plainN)) = r.any fun x => decide ((x.1.length : Int) > 0) && !isDirB l (x.1.take (x.1.length - 1)) := by
  intro r hr
  induction r with
  | nil => rfl
  | cons x r ih =>
   rw [List.any_cons, List.any_cons, ih fun y hy => hr y (List.mem_cons_of_mem _ hy)]
   congr 1
   show (decide ((x.1.length : Int) - 1 ≥ 0) && (kindAt (byPath (l.map plainN)) (x.1.take (x.1.length - 1)) != 1)) = _
   rw [kind_at h fun s hs => ok x (hr x List.mem_cons_self) s (List.take_subset _ _ hs)]
   congr 1
   simp only [decide_eq_decide]
   omega
 exact key l fun x hx => hx
theorem checkT_eq (l : List NoD) : checkT (l.map plainN) = if placedR l != 0 then placedR l else if (l.map plainN).any (fun x => !mayT x) then 7 else linkGo (l.map plainN) [] := by
 unfold checkT placedR
 rw [List.length_map, named_eq]
 by_cases h1 : (l.length : Int) > 1024
 ·rw [if_pos h1, if_pos h1]; rfl
 ·rw [if_neg h1, if_neg h1]
  by_cases h2 : (namedR l != 0) = true
  ·rw [if_pos h2, if_pos h2, if_pos h2]
  ·rw [if_neg h2, if_neg h2]
   have h0 : namedE (l.map plainN) = 0 := by rw [named_eq]; simpa using h2
   rw [kind_at h0 (fun s hs => by cases hs), par_eq h0]
   cases isDirB l [] <;> cases upB l <;> rfl
theorem linkGo_iff : ∀ {l : List NoD} {m : List (Int × NoD)}, linkGo l m = 0 ↔ (l.Pairwise fun a b => a.2.1 = b.2.1 → b.2.2.1 ≠ 1 ∧ b.2.2 = a.2.2) ∧ ∀ x ∈ l, ∀ o, Kk.get .int m x.2.1 = some o → x.2.2.1 ≠ 1 ∧ x.2.2 = o.2.2
 | [], m => by simp [linkGo]
 | x :: r, m => by
  unfold linkGo
  rw [List.pairwise_cons]
  cases hg : Kk.get .int m x.2.1 with
  | none =>
   simp only
   rw [linkGo_iff (l := r)]
   constructor
   ·rintro ⟨h1, h2⟩
    refine ⟨⟨fun y hy e => h2 y hy x (by rw [← e]; exact kget_same), h1⟩, fun y hy o ho => ?_⟩
    rcases List.mem_cons.1 hy with rfl | hy
    ·rw [hg] at ho; cases ho
    ·by_cases e : y.2.1 = x.2.1
     ·rw [e, hg] at ho; cases ho
     ·exact h2 y hy o (by rw [kget_ne (k := .int) e]; exact ho)
   ·rintro ⟨⟨h1, h2⟩, h3⟩
    refine ⟨h2, fun y hy o ho => ?_⟩
    by_cases e : y.2.1 = x.2.1
    ·rw [e, kget_same] at ho
     obtain rfl := Option.some.inj ho
     exact h1 y hy e.symm
    ·rw [kget_ne (k := .int) e] at ho
     exact h3 y (List.mem_cons_of_mem _ hy) o ho
  | some o =>
   simp only
   by_cases hb : (x.2.2.1 == 1 || !alikeN x o) = true
   ·rw [if_pos hb]
    constructor
    ·intro h; cases h
    ·rintro ⟨_, h⟩
     obtain ⟨h1, h2⟩ := h x List.mem_cons_self o hg
     rw [alikeN_iff.2 h2] at hb
     simp [h1] at hb
   ·rw [if_neg hb, linkGo_iff (l := r)]
    simp only [Bool.or_eq_true, beq_iff_eq, Bool.not_eq_true', not_or, Bool.not_eq_false, alikeN_iff] at hb
    constructor
    ·rintro ⟨h1, h2⟩
     refine ⟨⟨fun y hy e => ?_, h1⟩, fun y hy o' ho => ?_⟩
     ·obtain ⟨h3, h4⟩ := h2 y hy o (by rw [← e]; exact hg)
      exact ⟨h3, h4.trans hb.2.symm⟩
     ·rcases List.mem_cons.1 hy with rfl | hy
      ·rw [hg] at ho
       obtain rfl := Option.some.inj ho
       exact hb
      ·exact h2 y hy o' ho
    ·rintro ⟨⟨_, h2⟩, h3⟩
     exact ⟨h2, fun y hy o' ho => h3 y (List.mem_cons_of_mem _ hy) o' ho⟩
theorem opqGo_iff : ∀ {l : List NoD} {m : List (Int × Bool)}, opqGo l m = false ↔ (l.Pairwise fun a b => a.2.1 = b.2.1 → a.2.2.1 ≠ 1) ∧ ∀ x ∈ l, Kk.get .int m x.2.1 ≠ some true
 | [], m => by simp [opqGo]
 | x :: r, m => by
  unfold opqGo
  rw [List.pairwise_cons]
  by_cases hb : (Kk.get .int m x.2.1).getD false = true
  ·rw [if_pos hb]
   constructor
   ·intro h; cases h
   ·rintro ⟨_, h⟩
    refine absurd ?_ (h x List.mem_cons_self)
    cases hg : Kk.get .int m x.2.1 with
    | none => rw [hg] at hb; cases hb
    | some b => rw [hg] at hb; rw [show b = true from hb]
  ·have hx : Kk.get .int m x.2.1 ≠ some true := fun e => hb (by rw [e]; rfl)
   rw [if_neg hb, opqGo_iff (l := r)]
   constructor
   ·rintro ⟨h1, h2⟩
    refine ⟨⟨fun y hy e k => ?_, h1⟩, fun y hy => ?_⟩
    ·have := h2 y hy
     rw [← e, kget_same, k] at this
     exact this rfl
    ·rcases List.mem_cons.1 hy with rfl | hy
     ·exact hx
     ·by_cases e : y.2.1 = x.2.1
      ·rw [e]; exact hx
      ·have := h2 y hy
       rwa [kget_ne (k := .int) e] at this
   ·rintro ⟨⟨h1, h2⟩, h3⟩
    refine ⟨h2, fun y hy => ?_⟩
    by_cases e : y.2.1 = x.2.1
    ·rw [e, kget_same]
     have := h1 y hy e.symm
     simp [this]
    ·rw [kget_ne (k := .int) e]
     exact h3 y (List.mem_cons_of_mem _ hy)
theorem whGo_iff : ∀ {l : List NoD} {m : List (Int × Bool)}, whGo l m = false ↔ (l.Pairwise fun a b => a.2.1 = b.2.1 → a.2.2.1 ≠ 4 ∧ b.2.2.1 ≠ 4) ∧ ∀ x ∈ l, ∀ o, Kk.get .int m x.2.1 = some o → o = false ∧ x.2.2.1 ≠ 4
 | [], m => by simp [whGo]
 | x :: r, m => by
  unfold whGo
  rw [List.pairwise_cons]
  have step : (whGo r (Kk.put .int m x.2.1 (x.2.2.1 == 4)) = false ∧ ∀ o, Kk.get .int m x.2.1 = some o → o = false ∧ x.2.2.1 ≠ 4) ↔ ((∀ y ∈ r, x.2.1 = y.2.1 → x.2.2.1 ≠ 4 ∧ y.2.2.1 ≠ 4) ∧ r.Pairwise fun a b => a.2.1 = b.2.1 → a.2.2.1 ≠ 4 ∧ b.2.2.1 ≠ 4) ∧ ∀ y ∈ x :: r, ∀ o, Kk.get .int m y.2.1 = some o → o = false ∧ y.2.2.1 ≠ 4 := by
   rw [whGo_iff (l := r)]
   constructor
   ·rintro ⟨⟨h1, h2⟩, hx⟩
    have hy' : ∀ y ∈ r, x.2.1 = y.2.1 → x.2.2.1 ≠ 4 ∧ y.2.2.1 ≠ 4 := fun y hy e => by
     have := h2 y hy (x.2.2.1 == 4) (by rw [← e]; exact kget_same)
     exact ⟨by simpa using this.1, this.2⟩
    refine ⟨⟨hy', h1⟩, fun y hy o ho => ?_⟩
    rcases List.mem_cons.1 hy with rfl | hy
    ·exact hx o ho
    ·by_cases e : y.2.1 = x.2.1
     ·exact ⟨(hx o (by rw [← e]; exact ho)).1, (hy' y hy e.symm).2⟩
     ·exact h2 y hy o (by rw [kget_ne (k := .int) e]; exact ho)
   ·rintro ⟨⟨h1, h2⟩, h3⟩
    refine ⟨⟨h2, fun y hy o ho => ?_⟩, h3 x List.mem_cons_self⟩
    by_cases e : y.2.1 = x.2.1
    ·rw [e, kget_same] at ho
     obtain rfl := Option.some.inj ho
     obtain ⟨h4, h5⟩ := h1 y hy e.symm
     exact ⟨by simpa using h4, h5⟩
    ·rw [kget_ne (k := .int) e] at ho
     exact h3 y (List.mem_cons_of_mem _ hy) o ho
  rw [← step]
  cases hg : Kk.get .int m x.2.1 with
  | none => simp
  | some o =>
   simp only
   by_cases hb : (o || x.2.2.1 == 4) = true
   ·rw [if_pos hb]
    constructor
    ·intro h; cases h
    ·rintro ⟨_, h⟩
     obtain ⟨h1, h2⟩ := h o rfl
     rw [h1] at hb
     simp [h2] at hb
   ·rw [if_neg hb]
    simp only [Bool.or_eq_true, beq_iff_eq, not_or, Bool.not_eq_true] at hb
    constructor
    ·intro h
     refine ⟨h, fun o' e => ?_⟩
     obtain rfl := Option.some.inj e
     exact hb
    ·exact fun h => h.1
theorem badL_iff {a b : NoD} : badL b a = false ↔ (a.2.1 = b.2.1 → b.2.2.1 ≠ 1 ∧ b.2.2.1 ≠ 4 ∧ b.2.2 = a.2.2) := by
 unfold badL
 by_cases e : a.2.1 = b.2.1
 ·have e2 : (b.2.1 == a.2.1) = true := by rw [e]; simp
  rw [e2, Bool.true_and]
  simp only [Bool.or_eq_false_iff, beq_eq_false_iff_ne, Bool.not_eq_false', alikeN_iff]
  exact ⟨fun h _ => h, fun h => h e⟩
 ·have e2 : (b.2.1 == a.2.1) = false := by
   rw [beq_eq_false_iff_ne]; exact fun h => e h.symm
  rw [e2, Bool.false_and]
  exact ⟨fun _ h => absurd h e, fun _ => rfl⟩
theorem pairs_iff {a b : NoD} : (a.2.1 = b.2.1 → b.2.2.1 ≠ 1 ∧ b.2.2.1 ≠ 4 ∧ b.2.2 = a.2.2) ↔ ((a.2.1 = b.2.1 → (plainN b).2.2.1 ≠ 1 ∧ (plainN b).2.2 = (plainN a).2.2) ∧ (a.2.1 = b.2.1 → a.2.2.1 ≠ 1)) ∧ (a.2.1 = b.2.1 → a.2.2.1 ≠ 4 ∧ b.2.2.1 ≠ 4) := by
 have k1 := plain_kind1 b
 constructor
 ·intro h
  refine ⟨⟨fun e => ?_, fun e => ?_⟩, fun e => ?_⟩
  ·obtain ⟨h1, h4, h5⟩ := h e
   rw [plain_same h1 h4, plain_same (by rw [← h5]; exact h1) (by rw [← h5]; exact h4)]
   exact ⟨h1, h5⟩
  ·obtain ⟨h1, h4, h5⟩ := h e
   rw [← h5]; exact h1
  ·obtain ⟨h1, h4, h5⟩ := h e
   exact ⟨by rw [← h5]; exact h4, h4⟩
 ·rintro ⟨⟨h1, h2⟩, h3⟩ e
  obtain ⟨h4, h5⟩ := h1 e
  obtain ⟨h6, h7⟩ := h3 e
  have h8 : b.2.2.1 ≠ 1 := by
   intro q
   rw [q] at k1
   exact h4 (by simpa using k1)
  rw [plain_same h8 h7, plain_same (h2 e) h6] at h5
  exact ⟨h8, h7, h5⟩
theorem pw_and {α : Type} {R S : α → α → Prop} {l : List α} : l.Pairwise (fun a b => R a b ∧ S a b) ↔ l.Pairwise R ∧ l.Pairwise S := by
 induction l with
 | nil => simp
 | cons x l ih =>
  simp only [List.pairwise_cons, ih]
  constructor
  ·rintro ⟨h1, h2, h3⟩
   exact ⟨⟨fun y hy => (h1 y hy).1, h2⟩, fun y hy => (h1 y hy).2, h3⟩
  ·rintro ⟨⟨h1, h2⟩, h3, h4⟩
   exact ⟨fun y hy => ⟨h1 y hy, h3 y hy⟩, h2, h4⟩
theorem links_iff (l : List NoD) : linksGo [] l = false ↔ linkGo (l.map plainN) [] = 0 ∧ opqGo l [] = false ∧ whGo l [] = false := by
 rw [linksGo_iff, linkGo_iff, opqGo_iff, whGo_iff, List.pairwise_map]
 simp only [badL_iff, pairs_iff]
 rw [pw_and, pw_and]
 constructor
 ·rintro ⟨⟨h1, h2⟩, h3⟩
  exact ⟨⟨h1, fun _ _ _ h => by cases h⟩, ⟨h2, fun _ _ h => by cases h⟩, h3, fun _ _ _ h => by cases h⟩
 ·rintro ⟨⟨h1, _⟩, ⟨h2, _⟩, h3, _⟩
  exact ⟨⟨h1, h2⟩, h3⟩
theorem linkGo_two : ∀ {l : List NoD} {m : List (Int × NoD)}, linkGo l m = 0 ∨ linkGo l m = 8
 | [], _ => .inl rfl
 | x :: r, m => by
  unfold linkGo
  cases Kk.get .int m x.2.1 with
  | none => exact linkGo_two
  | some o =>
   simp only
   split
   ·exact .inr rfl
   ·exact linkGo_two
theorem validN_8 (s : ByteArray) : validN s ≠ 8 := by
 unfold validN
 split
 ·decide
 ·split <;> decide
theorem validsGo_8 : ∀ l : List ByteArray, validsGo l ≠ 8
 | [] => by decide
 | s :: r => by
  unfold validsGo
  split
  ·exact validN_8 s
  ·exact validsGo_8 r
theorem namesGo_8 : ∀ l : List NoD, namesGo l ≠ 8
 | [] => by decide
 | x :: r => by
  unfold namesGo
  split
  ·exact validsGo_8 x.1
  ·exact namesGo_8 r
theorem placedR_8 (l : List NoD) : placedR l ≠ 8 := by
 unfold placedR
 split
 ·decide
 ·split
  ·unfold namedR
   split
   ·exact namesGo_8 l
   ·split
    ·decide
    ·split <;> decide
  ·split
   ·decide
   ·split <;> decide
theorem may_eq (x : NoD) : (!mayU x) = (!mayT (plainN x) || badM x) := by
 by_cases h4 : x.2.2.1 = 4
 ·have hm : mayU x = !badM x := by unfold mayU; rw [if_pos h4]
  rw [hm]
  cases hb : badM x with
  | true => simp
  | false =>
   have : mayT (plainN x) = true := by
    unfold badM at hb
    rw [h4] at hb
    simp only [beq_self_eq_true, Bool.true_and, Bool.or_eq_false_iff, Bool.not_eq_false', Bool.and_eq_true, beq_iff_eq, decide_eq_false_iff_not] at hb
    obtain ⟨⟨⟨⟨⟨m, u, g⟩, d⟩, t⟩, xs⟩, o⟩ := hb
    have d0 : x.2.2.2.2.1 = [] := List.eq_nil_of_length_eq_zero (by omega)
    have x0 : x.2.2.2.2.2.2.1 = [] := List.eq_nil_of_length_eq_zero (by omega)
    unfold mayT plainN
    simp only [h4, if_true]
    rw [if_neg (by decide), d0, x0, m, u, g]
    unfold noB
    rw [t]
    simp only [if_neg (show ¬ (4 : Int) = 1 by decide), o]
    rfl
   rw [this]; rfl
 ·have hb : badM x = false := by
   unfold badM
   rw [show (x.2.2.1 == 4) = false by simpa using h4, Bool.false_and]
  have hm : mayU x = mayT (plainN x) := by
   unfold mayU plainN
   rw [if_neg h4, if_neg h4]
  rw [hb, hm, Bool.or_false]
theorem any_or {α : Type} (p q : α → Bool) (l : List α) : (l.any fun x => p x || q x) = (l.any p || l.any q) := by
 induction l with
 | nil => rfl
 | cons x l ih =>
  simp only [List.any_cons, ih]
  cases p x <;> cases q x <;> cases l.any p <;> rfl
theorem check_eq (l : List NoD) : checkU l = checkR l := by
 have hA : (l.any fun x => !mayU x) = (((l.map plainN).any fun x => !mayT x) || l.any fun x => badM x) := by
  rw [List.any_map, ← any_or]
  congr 1
  funext x
  exact may_eq x
 unfold checkU checkR
 rw [checkT_eq]
 have h8 := placedR_8 l
 by_cases h1 : (placedR l != 0) = true
 ·rw [if_pos h1, if_pos h1, h1, show (placedR l != 8) = true by simpa using h8]; rfl
 ·rw [if_neg h1, if_neg h1]
  cases h2 : (l.map plainN).any fun x => !mayT x with
  | true => rw [hA, h2]; rfl
  | false =>
   rw [h2, Bool.false_or] at hA
   rw [if_neg (show ¬ false = true by decide), hA]
   have hl := links_iff l
   have e8 : (linkGo (l.map plainN) [] != 0 && linkGo (l.map plainN) [] != 8) = false := by
    rcases linkGo_two (l := l.map plainN) (m := []) with h | h <;> rw [h] <;> rfl
   rw [e8, if_neg (show ¬ false = true by decide)]
   cases l.any fun x => badM x with
   | true => rfl
   | false =>
    simp only [Bool.false_eq_true, if_false]
    cases h3 : linksGo [] l with
    | false =>
     obtain ⟨h4, h5, h6⟩ := hl.1 h3
     rw [h4, h5, h6]; rfl
    | true =>
     rw [if_pos rfl]
     cases h5 : opqGo l [] with
     | true => rw [Bool.or_true]; rfl
     | false =>
      cases h6 : whGo l [] with
      | true => cases (linkGo (l.map plainN) [] != 0) <;> rfl
      | false =>
       rcases linkGo_two (l := l.map plainN) (m := []) with h | h
       ·have := hl.2 ⟨h, h5, h6⟩
        rw [h3] at this; cases this
       ·rw [h]; rfl
end Go.Proofs

namespace Go.Proofs
open Go Go.Lm Go.RowKit
set_option maxRecDepth 1000000
structure GoodL (l : List NoD) : Prop where
 len : (l.length : Int) ≤ 1024
 nm : ∀ x ∈ l, ∀ s ∈ x.1, validN s = 0
 deep : ∀ x ∈ l, x.1.length ≤ 16
 tw : l.Pairwise fun a b => a.1 ≠ b.1
 root : ∃ x ∈ l, x.1 = [] ∧ x.2.2.1 = 1
 par : ∀ x ∈ l, x.1.length ≠ 0 → ∃ y ∈ l, y.2.2.1 = 1 ∧ y.1 = x.1.take (x.1.length - 1)
 may : ∀ x ∈ l, mayU x = true
 one : l.Pairwise fun a b => a.2.1 = b.2.1 → b.2.2.1 ≠ 1 ∧ b.2.2.1 ≠ 4 ∧ b.2.2 = a.2.2
theorem isDirB_some {l : List NoD} {p : List ByteArray} (h : isDirB l p = true) : ∃ x ∈ l, x.2.2.1 = 1 ∧ x.1 = p := by
 unfold isDirB at h
 cases hf : l.find? (isNm p) with
 | none => rw [hf] at h; cases h
 | some x =>
  rw [hf] at h
  have hn := List.find?_some hf
  unfold isNm at hn
  exact ⟨x, List.mem_of_find?_eq_some hf, eq_of_beq h, sameN_iff.1 hn⟩
theorem goodL_of {l : List NoD} (h : checkU l = 0) : GoodL l := by
 rw [check_eq] at h
 unfold checkR at h
 by_cases h1 : (placedR l != 0) = true
 ·rw [if_pos h1] at h
  rw [h] at h1; cases h1
 rw [if_neg h1] at h
 have hP : placedR l = 0 := by simpa using h1
 cases hm : l.any fun x => !mayU x with
 | true => rw [hm] at h; cases h
 | false =>
  rw [hm] at h
  cases hl : linksGo [] l with
  | true => rw [hl] at h; cases h
  | false =>
   unfold placedR at hP
   by_cases k1 : (l.length : Int) > 1024
   ·rw [if_pos k1] at hP; cases hP
   rw [if_neg k1] at hP
   by_cases k2 : (namedR l != 0) = true
   ·rw [if_pos k2] at hP
    rw [hP] at k2; cases k2
   rw [if_neg k2] at hP
   have hN : namedR l = 0 := by simpa using k2
   cases k3 : isDirB l [] with
   | false => rw [k3] at hP; cases hP
   | true =>
    rw [k3] at hP
    cases k4 : upB l with
    | true => rw [k4] at hP; cases hP
    | false =>
     unfold namedR at hN
     by_cases n1 : (namesGo l != 0) = true
     ·rw [if_pos n1] at hN
      rw [hN] at n1; cases n1
     rw [if_neg n1] at hN
     cases n2 : deepB l with
     | true => rw [n2] at hN; cases hN
     | false =>
      rw [n2] at hN
      cases n3 : twiceGo l l 0 with
      | true => rw [n3] at hN; cases hN
      | false =>
       have tw := twiceGo_iff.1 n3
       refine ⟨by omega, names_valid (by simpa using n1), fun x hx => ?_, tw, ?_, fun x hx hx0 => ?_, fun x hx => ?_, ?_⟩
       ·unfold deepB at n2
        have := List.any_eq_false.1 n2 x hx
        simp at this; omega
       ·obtain ⟨x, hx, e1, e2⟩ := isDirB_some k3
        exact ⟨x, hx, e2, e1⟩
       ·unfold upB at k4
        have := List.any_eq_false.1 k4 x hx
        have hd : isDirB l (x.1.take (x.1.length - 1)) = true := by
         cases q : isDirB l (x.1.take (x.1.length - 1)) with
         | true => rfl
         | false =>
          rw [q] at this
          exact absurd (by simp; omega) this
        exact isDirB_some hd
       ·have := List.any_eq_false.1 hm x hx
        simpa using this
       ·have := linksGo_iff.1 hl
        simpa only [badL_iff] using this
theorem goodT_of {l L : List NoD} (g : GoodL l) (hp : L.Perm l) (ho : L.Pairwise fun x y => ¬ cmpL y.1 x.1 < 0) : GoodT L := by
 have tw : L.Pairwise fun a b => a.1 ≠ b.1 := hp.symm.pairwise g.tw (fun h => Ne.symm h)
 refine ⟨fun x hx => g.nm x (hp.mem_iff.1 hx), strict_of ho tw, ?_, fun x hx e => ?_, fun x hx h0 => ?_, fun x hx => g.may x (hp.mem_iff.1 hx), ?_⟩
 ·obtain ⟨x, hx, e, _⟩ := g.root
  exact ⟨x, hp.mem_iff.2 hx, e⟩
 ·obtain ⟨y, hy, e1, e2⟩ := g.root
  have := nm_inj tw hx (hp.mem_iff.2 hy) (e.trans e1.symm)
  rw [this]; exact e2
 ·obtain ⟨y, hy, e⟩ := g.par x (hp.mem_iff.1 hx) h0
  exact ⟨y, hp.mem_iff.2 hy, e⟩
 ·refine hp.symm.pairwise g.one (fun {a b} h e => ?_)
  obtain ⟨h1, h2, h3⟩ := h e.symm
  rw [h3] at h1 h2
  exact ⟨h1, h2, h3.symm⟩
theorem same_order {l L K : List NoD} (g : GoodL l) (hp : L.Perm l) (ho : L.Pairwise fun x y => ¬ cmpL y.1 x.1 < 0) (kp : K.Perm l) (ko : K.Pairwise fun x y => ¬ cmpL y.1 x.1 < 0) : L = K :=
 strict_uniq (hp.trans kp.symm) (goodT_of g hp ho).ord (goodT_of g kp ko).ord
structure Filled (Y : UpY) (C : List NoD) : Prop where
 isB : IsB Y C
 ord : C.Pairwise fun a b => cmpL a.1 b.1 < 0
 deep : ∀ c ∈ C, c.1.length < 17
 tree : (numGo (Y.rows 17 1 []) []).map Y.opqT = C
 tall : Y.Tall 17 1
 len : (Y.rows 17 1 []).length = C.length
 cnt : cntGo C 0 0 = ((Y.L.length : Int), Y.usedB)
theorem filled_of {l L : List NoD} (a b : Int) (g : GoodL l) (hp : L.Perm l) (ho : L.Pairwise fun x y => ¬ cmpL y.1 x.1 < 0) : Filled (fillGo L [] (UpY.new a b)) (numGo L []) := by
 have gT := goodT_of g hp ho
 have h := fill_all a b gT
 have ord : (numGo L []).Pairwise fun a b => cmpL a.1 b.1 < 0 := num_ord gT.ord
 have deep : ∀ c ∈ numGo L [], c.1.length < 17 := fun c hc => by
  obtain ⟨x, hx, e, _⟩ := num_mem hc
  have := g.deep x (hp.mem_iff.1 hx)
  rw [e] at this
  omega
 refine ⟨h, ord, deep, ?_, ⟨h.tall deep 17 [] 1 rfl (by simp)⟩, ?_, cnt_used h rfl⟩
 ·rw [h.tree ord deep rfl, List.map_map]
  conv => rhs; rw [← List.map_id (numGo L [])]
  refine List.map_congr_left fun c hc => ?_
  have hf := h.findC _ c hc (Nat.le_refl _)
  show UpY.opqT _ (c.setO false) = c
  unfold UpY.opqT
  rw [show (c.setO false).1 = c.1 from rfl, hf]
  simp only [if_true]
  rw [h.opq hc]; rfl
 ·rw [h.rows ord deep, List.length_map]
end Go.Proofs

namespace Go.Proofs
open Go Go.Lm Go.RowKit
set_option maxRecDepth 1000000
def c_lfills : Ct
 | [.v (.agg cq), .v (.c cl)], [], Q => (match (quTy).of cq with
  | some (q, []) => (match (Ty.sl noTy).of [cl] with
  | some (l, []) => Q (.bool true) []
  | _ => False)
  | _ => False)
 | _, _, _ => False
noncomputable def XB1694 : Vx := { P := Tryz.prog, ct := [(18, c_shown), (19, c_kfew), (20, c_fill), (29, c_kcheckR), (27, c_btree), (30, c_canon), (28, c_same7), (21, c_used), (31, c_over)], ty := tyTab, hold := [20, 29, 30, 28] }
theorem XB1694_ok : CtOk Inv Tryz.prog XB1694.ct := CtOk.cons w_shown (CtOk.cons w_kfew (CtOk.cons w_fill (CtOk.cons w_kcheckR (CtOk.cons w_btree (CtOk.cons w_canon (CtOk.cons w_same7 (CtOk.cons w_used (CtOk.cons w_over (CtOk.nil _ _)))))))))
def vc_lfills : ((quTy).den) → (List (noTy).den) → (SV → List HO → Prop) → Prop :=
 fun q l Q => inK .i64 q.1 → inK .i64 q.2.1 → List.length l ≤ 9223372036854775807 → (↑(List.length (List.map clipN (List.take (40 : Nat) l))) : Int) ≤ (1000 : Int) ∧ br (checkU (List.map clipN (List.take (40 : Nat) l)) != 0) (inK .i64 
 (checkU (List.map clipN (List.take (40 : Nat) l))) → inK .i64 (checkR (List.map clipN (List.take (40 : Nat) l))) → br (checkU (List.map clipN (List.take (40 : Nat) l)) != checkR (List.map clipN (List.take (40 : Nat) l))) (Q (.v (.c (.k 
 (.bool false)))) []) (br (!true == (checkR (List.map clipN (List.take (40 : Nat) l)) != 0)) (Q (.v (.c (.k (.bool false)))) []) (Q (.v (.c (.k (.bool true)))) []))) (∀ (L' : List NoD), List.Perm L' (List.map clipN (List.take (40 : Nat) l)) 
 → List.Pairwise (fun x y => ¬cmpL y.1 x.1 < 0) L' → inK .i64 0 → inK .i64 (checkR (List.map clipN (List.take (40 : Nat) l))) → br ((0 : Int) != checkR (List.map clipN (List.take (40 : Nat) l))) (Q (.v (.c (.k (.bool false)))) []) (br 
 (!(!true) == (checkR (List.map clipN (List.take (40 : Nat) l)) != 0)) (Q (.v (.c (.k (.bool false)))) []) (∃ n, UpY.Ok (fillGo L' [] (UpY.new q.1 q.2.1)) ∧ UpY.Tall (fillGo L' [] (UpY.new q.1 q.2.1)) (n + 1) (1 : Int) ∧ n ≤ 800 ∧ 
 List.length (UpY.rows (fillGo L' [] (UpY.new q.1 q.2.1)) (n + 1) (1 : Int) []) ≤ 100000 ∧ (inK .i64 0 → (↑(List.length (List.map clipN (List.take (40 : Nat) l))) : Int) ≤ (1000 : Int) ∧ ∀ (L'_1 : List NoD), List.Perm L'_1 (List.map clipN 
 (List.take (40 : Nat) l)) → List.Pairwise (fun x y => ¬cmpL y.1 x.1 < 0) L'_1 → List.map (UpY.opqT (fillGo L' [] (UpY.new q.1 q.2.1))) (numGo (UpY.rows (fillGo L' [] (UpY.new q.1 q.2.1)) (n + 1) (1 : Int) []) []) = numGo L'_1 [] ∧ LoopP 
 (fun i again => List.length (numGo L'_1 []) ≤ 9223372036854775807 → br (decide (i.1.2.2.1 < (↑(List.length (numGo L'_1 [])) : Int))) (JoinP (fun k => 0 ≤ i.1.2.2.1 ∧ i.1.2.2.1 < (↑(List.length (numGo L'_1 [])) : Int) ∧ (Ty.ok noTy (ixD noTy 
 (numGo L'_1 []) i.1.2.2.1) → List.length (ixD noTy (numGo L'_1 []) i.1.2.2.1).1 ≤ 9223372036854775807 → br (decide ((↑(List.length (ixD noTy (numGo L'_1 []) i.1.2.2.1).1) : Int) > (0 : Int))) (0 ≤ i.1.2.2.1 ∧ i.1.2.2.1 < (↑(List.length 
 (numGo L'_1 [])) : Int) ∧ (Ty.ok noTy (ixD noTy (numGo L'_1 []) i.1.2.2.1) → 0 ≤ i.1.2.2.1 ∧ i.1.2.2.1 < (↑(List.length (numGo L'_1 [])) : Int) ∧ (Ty.ok noTy (ixD noTy (numGo L'_1 []) i.1.2.2.1) → List.length (ixD noTy (numGo L'_1 []) 
 i.1.2.2.1).1 ≤ 9223372036854775807 → inK .i64 ((↑(List.length (ixD noTy (numGo L'_1 []) i.1.2.2.1).1) : Int) - 1) ∧ (0 : Int) ≤ (↑(List.length (ixD noTy (numGo L'_1 []) i.1.2.2.1).1) : Int) - 1 ∧ (↑(List.length (ixD noTy (numGo L'_1 []) 
 i.1.2.2.1).1) : Int) - 1 < (↑(List.length (ixD noTy (numGo L'_1 []) i.1.2.2.1).1) : Int) ∧ (Ty.ok Ty.str (ixD Ty.str (ixD noTy (numGo L'_1 []) i.1.2.2.1).1 ((↑(List.length (ixD noTy (numGo L'_1 []) i.1.2.2.1).1) : Int) - 1)) → inK .i64 
 (i.1.1 + (↑(ByteArray.size (ixD Ty.str (ixD noTy (numGo L'_1 []) i.1.2.2.1).1 ((↑(List.length (ixD noTy (numGo L'_1 []) i.1.2.2.1).1) : Int) - 1))) : Int)) ∧ k ((i.1.1 + (↑(ByteArray.size (ixD Ty.str (ixD noTy (numGo L'_1 []) i.1.2.2.1).1 
 ((↑(List.length (ixD noTy (numGo L'_1 []) i.1.2.2.1).1) : Int) - 1))) : Int), ()), ()))))) (k ((i.1.1, ()), ())))) fun i_1 => 0 ≤ i.1.2.2.1 ∧ i.1.2.2.1 < (↑(List.length (numGo L'_1 [])) : Int) ∧ (Ty.ok noTy (ixD noTy (numGo L'_1 []) 
 i.1.2.2.1) → br (decide ((ixD noTy (numGo L'_1 []) i.1.2.2.1).2.1 ≤ i.1.2.1)) (inK .i64 (i.1.2.2.1 + 1) ∧ again ((i_1.1.1, i.1.2.1, i.1.2.2.1 + 1, ()), ())) (0 ≤ i.1.2.2.1 ∧ i.1.2.2.1 < (↑(List.length (numGo L'_1 [])) : Int) ∧ (Ty.ok noTy 
 (ixD noTy (numGo L'_1 []) i.1.2.2.1) → inK .i64 (i_1.1.1 + 64) ∧ 0 ≤ i.1.2.2.1 ∧ i.1.2.2.1 < (↑(List.length (numGo L'_1 [])) : Int) ∧ (Ty.ok noTy (ixD noTy (numGo L'_1 []) i.1.2.2.1) → List.length (ixD noTy (numGo L'_1 []) 
 i.1.2.2.1).2.2.2.2.1 ≤ 9223372036854775807 → inK .i64 (i_1.1.1 + 64 + (↑(List.length (ixD noTy (numGo L'_1 []) i.1.2.2.1).2.2.2.2.1) : Int)) ∧ 0 ≤ i.1.2.2.1 ∧ i.1.2.2.1 < (↑(List.length (numGo L'_1 [])) : Int) ∧ (Ty.ok noTy (ixD noTy (numGo 
 L'_1 []) i.1.2.2.1) → inK .i64 (i_1.1.1 + 64 + (↑(List.length (ixD noTy (numGo L'_1 []) i.1.2.2.1).2.2.2.2.1) : Int) + (↑(ByteArray.size (ixD noTy (numGo L'_1 []) i.1.2.2.1).2.2.2.2.2.1) : Int)) ∧ LoopP (fun i_2 again_1 => 0 ≤ i.1.2.2.1 ∧ 
 i.1.2.2.1 < (↑(List.length (numGo L'_1 [])) : Int) ∧ (Ty.ok noTy (ixD noTy (numGo L'_1 []) i.1.2.2.1) → List.length (ixD noTy (numGo L'_1 []) i.1.2.2.1).2.2.2.2.2.2.1 ≤ 9223372036854775807 → br (decide (i_2.1.2.1 < (↑(List.length (ixD noTy 
 (numGo L'_1 []) i.1.2.2.1).2.2.2.2.2.2.1) : Int))) (0 ≤ i.1.2.2.1 ∧ i.1.2.2.1 < (↑(List.length (numGo L'_1 [])) : Int) ∧ (Ty.ok noTy (ixD noTy (numGo L'_1 []) i.1.2.2.1) → 0 ≤ i_2.1.2.1 ∧ i_2.1.2.1 < (↑(List.length (ixD noTy (numGo L'_1 []) 
 i.1.2.2.1).2.2.2.2.2.2.1) : Int) ∧ (Ty.ok xaTy (ixD xaTy (ixD noTy (numGo L'_1 []) i.1.2.2.1).2.2.2.2.2.2.1 i_2.1.2.1) → inK .i64 (i_2.1.1 + (↑(ByteArray.size (ixD xaTy (ixD noTy (numGo L'_1 []) i.1.2.2.1).2.2.2.2.2.2.1 i_2.1.2.1).1) : 
 Int)) ∧ 0 ≤ i.1.2.2.1 ∧ i.1.2.2.1 < (↑(List.length (numGo L'_1 [])) : Int) ∧ (Ty.ok noTy (ixD noTy (numGo L'_1 []) i.1.2.2.1) → 0 ≤ i_2.1.2.1 ∧ i_2.1.2.1 < (↑(List.length (ixD noTy (numGo L'_1 []) i.1.2.2.1).2.2.2.2.2.2.1) : Int) ∧ (Ty.ok 
 xaTy (ixD xaTy (ixD noTy (numGo L'_1 []) i.1.2.2.1).2.2.2.2.2.2.1 i_2.1.2.1) → List.length (ixD xaTy (ixD noTy (numGo L'_1 []) i.1.2.2.1).2.2.2.2.2.2.1 i_2.1.2.1).2.1 ≤ 9223372036854775807 → inK .i64 (i_2.1.1 + (↑(ByteArray.size (ixD xaTy 
 (ixD noTy (numGo L'_1 []) i.1.2.2.1).2.2.2.2.2.2.1 i_2.1.2.1).1) : Int) + (↑(List.length (ixD xaTy (ixD noTy (numGo L'_1 []) i.1.2.2.1).2.2.2.2.2.2.1 i_2.1.2.1).2.1) : Int)) ∧ inK .i64 (i_2.1.2.1 + 1) ∧ again_1 ((i_2.1.1 + (↑(ByteArray.size 
 (ixD xaTy (ixD noTy (numGo L'_1 []) i.1.2.2.1).2.2.2.2.2.2.1 i_2.1.2.1).1) : Int) + (↑(List.length (ixD xaTy (ixD noTy (numGo L'_1 []) i.1.2.2.1).2.2.2.2.2.2.1 i_2.1.2.1).2.1) : Int), i_2.1.2.1 + 1, ()), ())))))) (inK .i64 (i.1.2.2.1 + 1) ∧ 
 again ((i_2.1.1, (ixD noTy (numGo L'_1 []) i.1.2.2.1).2.1, i.1.2.2.1 + 1, ()), ())))) ((i_1.1.1 + 64 + (↑(List.length (ixD noTy (numGo L'_1 []) i.1.2.2.1).2.2.2.2.1) : Int) + (↑(ByteArray.size (ixD noTy (numGo L'_1 []) 
 i.1.2.2.1).2.2.2.2.2.1) : Int), (0 : Int), ()), ()))))))) (UpY.Ok (fillGo L' [] (UpY.new q.1 q.2.1)) ∧ (inK .i64 (↑(List.length (fillGo L' [] (UpY.new q.1 q.2.1)).L) : Int) → inK .i64 (UpY.usedB (fillGo L' [] (UpY.new q.1 q.2.1))) → br 
 ((↑(List.length (fillGo L' [] (UpY.new q.1 q.2.1)).L) : Int) == i.1.2.1 && (UpY.usedB (fillGo L' [] (UpY.new q.1 q.2.1)) == i.1.1 && true)) (UpY.Ok (fillGo L' [] (UpY.new q.1 q.2.1)) ∧ br (decide (i.1.2.1 > q.1)) (Q (.v (.c (.k (.bool 
 (UpY.over (fillGo L' [] (UpY.new q.1 q.2.1)) == true))))) []) (Q (.v (.c (.k (.bool (UpY.over (fillGo L' [] (UpY.new q.1 q.2.1)) == decide (i.1.1 > q.2.1)))))) [])) (Q (.v (.c (.k (.bool false)))) [])))) (((0 : Int), (0 : Int), (0 : Int), 
 ()), ())))))
theorem vc_lfills_eq (q : (quTy).den) (l : List (noTy).den) (Q : SV → List HO → Prop) : vFun XB1694 ⟨[(16, ⟨[(13, .int .i64), (14, .int .i64), (15, .int .i64)], []⟩), (24, ⟨[(13, .int .i64), (16, .int .i64)], []⟩)], [(20, ⟨[(13, .int .i64)], []⟩)]⟩ Tryz.f7 [.v (.agg (Ty.cells quTy q)), .c (.d noTy l)] [] Q = vc_lfills q l Q := by kernel_rfl
theorem w_lfills : ∀ args H Q, c_lfills args H Q → Wp Inv Tryz.prog 7 args H Q := by
 intro args H Q h
 unfold c_lfills at h
 split at h
 rotate_left
 ·exact h.elim
 rename_i cq cl
 split at h
 rotate_left
 ·exact h.elim
 rename_i q hq
 split at h
 rotate_left
 ·exact h.elim
 rename_i l hl
 refine Wp.said (args' := [.v (.agg (Ty.cells quTy q)), .c (.d noTy l)]) (fun E g => RelVs.cons1 (of_row hq) (RelVs.cons1 (of_list hl) (fun _ h => h))) ?_
 clear hq hl
 refine Wp.enter (X := XB1694) XB1694_ok ⟨[(16, ⟨[(13, .int .i64), (14, .int .i64), (15, .int .i64)], []⟩), (24, ⟨[(13, .int .i64), (16, .int .i64)], []⟩)], [(20, ⟨[(13, .int .i64)], []⟩)]⟩ (fn := Tryz.f7) (by kernel_rfl) ?_
 have hv := vc_lfills_eq q l Q
 rw [show vFun _ _ _ _ _ _ = _ from hv]
 unfold vc_lfills
 clear hv
 intro _ _ _
 have hF40 : (List.map clipN (List.take 40 l)).length ≤ 40 := by rw [List.length_map, List.length_take]; omega
 generalize List.map clipN (List.take 40 l) = F at *
 rw [← check_eq F]
 refine ⟨by omega, br_of (fun hc => fun _ _ => ?_) (fun hc => fun L1 p1 o1 _ _ => ?_)⟩
 ·rw [hc]
  exact br_of (fun q => by simp at q) (fun _ => h)
 have hz : checkU F = 0 := by simpa using hc
 have g := goodL_of hz
 have fl := filled_of q.1 q.2.1 g p1 o1
 have hL1 : L1.length ≤ 40 := by rw [p1.length_eq]; exact hF40
 have ok := (okN_fill L1 [] (new_okN q.1 q.2.1)).ok (by omega)
 obtain ⟨hq1, hq2⟩ := qs_fill L1 [] (UpY.new q.1 q.2.1)
 have hq1 : _ = q.1 := hq1
 have hq2 : _ = q.2.1 := hq2
 rw [hz]
 generalize fillGo L1 [] (UpY.new q.1 q.2.1) = Y at *
 refine br_of (fun q => absurd q (by decide)) (fun _ => br_of (fun q => absurd q (by decide)) (fun _ => ?_))
 refine ⟨16, ok, fl.tall, by omega, by rw [fl.len, numGo_len]; omega, fun _ => ⟨by omega, fun L2 p2 o2 => ?_⟩⟩
 have e12 : L2 = L1 := same_order g p2 o2 p1 o1
 subst e12
 have hCl := numGo_len L2 []
 generalize numGo L2 [] = C at *
 refine ⟨fl.tree, ?_⟩
 have ub := (usedB_le ok).2
 refine LoopP.intro (fun i => 0 ≤ i.1.2.2.1 ∧ i.1.2.2.1 ≤ C.length ∧ 0 ≤ i.1.1 ∧ cntGo (C.drop i.1.2.2.1.toNat) i.1.2.1 i.1.1 = ((Y.L.length : Int), Y.usedB)) (fun i => C.length - i.1.2.2.1.toNat) ⟨by simp, by simp, by simp, by simpa using fl.cnt⟩ ?_
 rintro ⟨⟨b, n, i, _⟩, _⟩ ⟨i0, i1, b0, hcnt⟩
 simp only at i0 i1 b0 hcnt ⊢
 refine fun _ => br_of (fun hc => ?_) (fun hc => ?_)
 ·have hc : i < (C.length : Int) := of_decide_eq_true hc
  rw [ixD_drop (e := noTy) i0 hc] at hcnt
  generalize ixD noTy C i = c at *
  have m1 := lastZ_nn c
  have m2 := costN_nn c
  have m3 : b + lastZ c ≤ Y.usedB := by
   by_cases q : c.2.1 ≤ n
   ·rw [cnt_le q] at hcnt
    have := cnt_mono (C.drop (i + 1).toNat) n (b + lastZ c)
    rw [hcnt] at this; exact this
   ·rw [cnt_new q] at hcnt
    have := cnt_mono (C.drop (i + 1).toNat) c.2.1 (b + lastZ c + UpY.costN c)
    rw [hcnt] at this
    have : b + lastZ c + UpY.costN c ≤ Y.usedB := this
    omega
  refine JoinP.intro (fun k => k.1.1 = b + lastZ c) ?_ ?_
  ·refine ⟨i0, hc, fun _ _ => br_of (fun hd => ?_) (fun hd => ?_)⟩
   ·have hd := of_decide_eq_true hd
    have ez : lastZ c = ((ixD .str c.1 ((c.1.length : Int) - 1)).size : Int) := by
     unfold lastZ lastN
     rw [if_neg (by omega)]
    rw [ez] at m3 ⊢
    exact ⟨i0, hc, fun _ => ⟨i0, hc, fun _ _ => ⟨by unfold inK; omega, by omega, by omega, fun _ => ⟨by unfold inK; omega, rfl⟩⟩⟩⟩
   ·have hd := of_decide_eq_false hd
    have ez : lastZ c = 0 := if_pos (by omega)
    show b = b + lastZ c
    omega
  rintro ⟨⟨b1, _⟩, _⟩ hb1
  have hb1 : b1 = b + lastZ c := hb1
  simp only
  refine ⟨i0, hc, fun _ => br_of (fun hd => ?_) (fun hd => ?_)⟩
  ·have hd := of_decide_eq_true hd
   rw [cnt_le hd] at hcnt
   exact ⟨by unfold inK; omega, ⟨by omega, by omega, by omega, by rw [hb1]; exact hcnt⟩, by omega⟩
  have hd := of_decide_eq_false hd
  rw [cnt_new hd] at hcnt
  have m4 := cnt_mono (C.drop (i + 1).toNat) c.2.1 (b + lastZ c + UpY.costN c)
  rw [hcnt] at m4
  have m4 : b + lastZ c + UpY.costN c ≤ Y.usedB := m4
  have ec : UpY.costN c = 64 + (c.2.2.2.2.1.length : Int) + (c.2.2.2.2.2.1.size : Int) + UpY.costX c.2.2.2.2.2.2.1 := rfl
  have mx := costX_nn c.2.2.2.2.2.2.1
  refine ⟨i0, hc, fun _ => ⟨by unfold inK; omega, i0, hc, fun _ _ => ⟨by unfold inK; omega, i0, hc, fun _ => ⟨by unfold inK; omega, ?_⟩⟩⟩⟩
  refine LoopP.intro (fun j => 0 ≤ j.1.2.1 ∧ j.1.2.1 ≤ c.2.2.2.2.2.2.1.length ∧ 0 ≤ j.1.1 ∧ j.1.1 + UpY.costX (c.2.2.2.2.2.2.1.drop j.1.2.1.toNat) = b + lastZ c + UpY.costN c) (fun j => c.2.2.2.2.2.2.1.length - j.1.2.1.toNat) ⟨by simp, by simp, by simp only; omega, by simp only [show (0 : Int).toNat = 0 from rfl, List.drop_zero]; omega⟩ ?_
  rintro ⟨⟨z, k, _⟩, _⟩ ⟨k0, k1, z0, hz2⟩
  simp only at k0 k1 z0 hz2 ⊢
  refine ⟨i0, hc, fun _ _ => br_of (fun hk => ?_) (fun hk => ?_)⟩
  ·have hk : k < (c.2.2.2.2.2.2.1.length : Int) := of_decide_eq_true hk
   rw [ixD_drop (e := xaTy) k0 hk, costX_cons] at hz2
   have mr := costX_nn (c.2.2.2.2.2.2.1.drop (k + 1).toNat)
   exact ⟨i0, hc, fun _ => ⟨k0, hk, fun _ => ⟨by unfold inK; omega, i0, hc, fun _ => ⟨k0, hk, fun _ _ => ⟨by unfold inK; omega, by unfold inK; omega, ⟨by omega, by omega, by omega, by omega⟩, by omega⟩⟩⟩⟩⟩
  ·have hk : ¬ k < (c.2.2.2.2.2.2.1.length : Int) := of_decide_eq_false hk
   rw [drop_all hk] at hz2
   have hz2 : z + 0 = b + lastZ c + UpY.costN c := hz2
   rw [← hz2, Int.add_zero] at hcnt
   exact ⟨by unfold inK; omega, ⟨by omega, by omega, by omega, hcnt⟩, by omega⟩
 ·have hc : ¬ i < (C.length : Int) := of_decide_eq_false hc
  rw [drop_all hc] at hcnt
  have e1 : n = (Y.L.length : Int) := congrArg Prod.fst hcnt
  have e2 : b = Y.usedB := congrArg Prod.snd hcnt
  rw [e1, e2]
  refine ⟨ok, fun _ _ => br_of (fun _ => ⟨ok, br_of (fun ho => ?_) (fun ho => ?_)⟩) (fun hx => by simp at hx)⟩
  ·have : Y.over = true := by
    unfold UpY.over
    rw [hq1, ho]; rfl
   rw [this]; exact h
  ·have : Y.over = decide (Y.usedB > q.2.1) := by
    unfold UpY.over
    rw [hq1, hq2, ho]; rfl
   rw [this, beq_self_eq_true]; exact h
end Go.Proofs

namespace Go.Proofs
open Go Go.Lm Go.RowKit
set_option maxRecDepth 1000000
theorem fills_any (q : quTy.den) (l : List NoD) (cs : Array Value) (v : Value) (W : World) (h0 : quTy.rep.rel W cs.toList q) (h1 : IsD noTy W v l) : Ret Tryz.prog 7 #[.agg cs, v] W fun v w' => v = .bool true ∧ Le W w' :=
 Wp.run trivial (w_lfills [.v (.agg (quTy.cells q)), .v (.c (.d noTy l))] [] _ (by
  have e : (Ty.sl noTy).of [.d noTy l] = some (l, []) := by kernel_rfl
  have e2 : quTy.of (quTy.cells q) = some (q, []) := by kernel_rfl
  unfold c_lfills
  simp only [e2, e])) ⟨.agg cs, [v], rfl, ⟨cs.toList, (rel_cells [] W quTy h0).1, rfl⟩, v, [], rfl, h1, rfl⟩
end Go.Proofs

