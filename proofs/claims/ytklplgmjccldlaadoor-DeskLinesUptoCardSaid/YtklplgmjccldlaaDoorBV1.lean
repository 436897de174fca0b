/- Texts of mine, laid together: LmVa LmVb LmVc LmVd LmVe LmEqS LmEqB LmVf LmVg LmVh LmVi LmVj LmVk LmVl LmVka LmVm LmVn LmVnb LmVo. -/
import Derived.Test.YtklplgmjccldlaaDoorLmKB
import Derived.Test.YtklplgmjccldlaaDoorLmKA
import Derived.ChangeKeysEq
import Derived.Laws.StructEq
import Derived.Laws.Cover3
import Derived.Laws.Pointers
import Derived.Laws.Small
import Derived.Lib.AppendStr
import Derived.Great.BuildSlice
/- Data by codes of types; values, objects and frames by what is known of them. General: no program in sight. -/


namespace Go.Lm
open Go Go.RowKit

/-! ### Types of data -/
inductive Ty
  | int (k : IntKind) | u8 | str | bool | unit
  | pair (a b : Ty)
  | sl (e : Ty)
def IntKind.beq : IntKind → IntKind → Bool
  | .i8, .i8 | .i16, .i16 | .i32, .i32 | .i64, .i64 | .u8, .u8 | .u16, .u16 | .u32, .u32 | .u64, .u64 => true
  | _, _ => false
theorem IntKind.eq_of_beq : ∀ {a b : IntKind}, IntKind.beq a b = true → a = b := by
  intro a b; cases a <;> cases b <;> intro h <;> first | rfl | cases h
def Ty.beq : Ty → Ty → Bool
  | .int k, .int k' => IntKind.beq k k'
  | .u8, .u8 | .str, .str | .bool, .bool | .unit, .unit => true
  | .pair a b, .pair c d => a.beq c && b.beq d
  | .sl a, .sl b => a.beq b
  | _, _ => false
theorem Ty.eq_of_beq : ∀ {a b : Ty}, a.beq b = true → a = b
  | .int k, b, h => by
    cases b <;> first | cases h | (rw [IntKind.eq_of_beq (a := k) h])
  | .u8, b, h => by cases b <;> first | rfl | cases h
  | .str, b, h => by cases b <;> first | rfl | cases h
  | .bool, b, h => by cases b <;> first | rfl | cases h
  | .unit, b, h => by cases b <;> first | rfl | cases h
  | .pair a b, t, h => by
    cases t <;> try cases h
    rename_i c d
    have h' : (a.beq c && b.beq d) = true := h
    rw [Bool.and_eq_true] at h'
    rw [Ty.eq_of_beq h'.1, Ty.eq_of_beq h'.2]
  | .sl a, b, h => by
    cases b <;> try cases h
    rename_i c
    rw [Ty.eq_of_beq (a := a) (b := c) h]
theorem Ty.beq_refl : ∀ a : Ty, a.beq a = true
  | .int k => by cases k <;> rfl
  | .u8 | .str | .bool | .unit => rfl
  | .pair a b => by show (a.beq a && b.beq b) = true; rw [a.beq_refl, b.beq_refl]; rfl
  | .sl a => a.beq_refl
@[reducible] def Ty.den : Ty → Type
  | .int _ => Int
  | .u8 => UInt8
  | .str => ByteArray
  | .bool => Bool
  | .unit => Unit
  | .pair a b => a.den × b.den
  | .sl e => List e.den
def Ty.dflt : (τ : Ty) → τ.den
  | .int _ => (0 : Int)
  | .u8 => (0 : UInt8)
  | .str => (⟨#[]⟩ : ByteArray)
  | .bool => false
  | .unit => ()
  | .pair a b => (a.dflt, b.dflt)
  | .sl _ => []
def Ty.size : Ty → Nat
  | .unit => 0
  | .pair a b => a.size + b.size
  | _ => 1
def Ty.row : Ty → Bool
  | .unit | .pair .. => true
  | _ => false
@[reducible] def listRep (α : Type) (r : GoRep α) : GoRep (List α) := inferInstance
@[reducible] def Ty.rep : (τ : Ty) → GoRep τ.den
  | .int k => { size := 1, agg := false, rel := fun _ cs n => cs = [.int k n] ∧ (Lit.int k n).wf = true, mono := fun _ h => h, len := fun h => by rw [h.1]; rfl }
  | .u8 => (inferInstance : GoRep UInt8)
  | .str => (inferInstance : GoRep ByteArray)
  | .bool => (inferInstance : GoRep Bool)
  | .unit => { size := 0, agg := true, rel := fun _ cs _ => cs = [], mono := fun _ h => h, len := fun h => by rw [h]; rfl }
  | .pair a b =>
    { size := a.rep.size + b.rep.size, agg := true
      rel := fun w cs x => ∃ c1 c2, cs = c1 ++ c2 ∧ a.rep.rel w c1 x.1 ∧ b.rep.rel w c2 x.2
      mono := fun hl h => by
        obtain ⟨c1, c2, e, h1, h2⟩ := h
        exact ⟨c1, c2, e, a.rep.mono hl h1, b.rep.mono hl h2⟩
      len := fun h => by
        obtain ⟨c1, c2, e, h1, h2⟩ := h
        rw [e, List.length_append, a.rep.len h1, b.rep.len h2] }
  | .sl e => listRep e.den e.rep
theorem Ty.rep_size : ∀ τ : Ty, τ.rep.size = τ.size
  | .int _ | .u8 | .str | .bool | .unit | .sl _ => rfl
  | .pair a b => by
    show a.rep.size + b.rep.size = a.size + b.size
    rw [a.rep_size, b.rep_size]
theorem Ty.rep_row : ∀ τ : Ty, τ.rep.agg = τ.row
  | .int _ | .u8 | .str | .bool | .unit | .sl _ | .pair _ _ => rfl
/-- A value reads as a list. -/
def IsD (e : Ty) (g : World) (v : Value) (x : List e.den) : Prop := @Is (List e.den) (listRep e.den e.rep) g v x
theorem IsD.mono {e : Ty} {g g' : World} {v : Value} {x : List e.den} (m : Mono g g') (h : IsD e g v x) : IsD e g' v x := @Is.mono _ (listRep e.den e.rep) _ _ _ _ m h

/-- An element. -/
def ixD (e : Ty) (x : List e.den) (i : Int) : e.den := x.getD i.toNat e.dflt
theorem elemD {e : Ty} {g : World} {v : Value} {x : List e.den} {i : Int} (h : IsD e g v x) (h0 : 0 ≤ i) (h1 : i < x.length) : ∃ cs, ElemAt g e.size v i cs ∧ e.rep.rel g cs (ixD e x i) := by
  letI := e.rep
  obtain ⟨cs, h2, h3⟩ := elem_at (α := e.den) (xs := x) (g := g) (v := v) (i := i) h h0 h1
  have hs : GoRep.size e.den = e.size := Ty.rep_size e
  rw [hs] at h2
  refine ⟨cs, h2, ?_⟩
  have : ixD e x i = x[i.toNat]'(by omega) := by
    unfold ixD
    rw [List.getD_eq_getElem?_getD, List.getElem?_eq_getElem (by omega)]; rfl
  rw [this]; exact h3

/-! ### What is known of a cell, of a value -/
inductive Cl
  | k (v : Value)
  | d (e : Ty) (x : List e.den)
  | de (e : Ty) (x : List e.den) (i : Int) (off : Nat)
  | p (l : Nat) (off : Nat)
  | o (l : Nat)
  | os (l : Nat) (sz : Nat) (lo hi : Int)
  | oe (l : Nat) (sz : Nat) (i : Int) (off : Nat)
  | m (l : Nat)
  | sc (l off n : Nat)
  | fn (f : FuncId) (caps : List Cl)
  | ifc (t : TypeId) (c : Cl)
  | unk
/-- A word of a value that is known. -/
def inK : IntKind → Int → Prop
  | .i8, n => -128 ≤ n ∧ n ≤ 127
  | .i16, n => -32768 ≤ n ∧ n ≤ 32767
  | .i32, n => -2147483648 ≤ n ∧ n ≤ 2147483647
  | .i64, n => -9223372036854775808 ≤ n ∧ n ≤ 9223372036854775807
  | .u8, n => 0 ≤ n ∧ n ≤ 255
  | .u16, n => 0 ≤ n ∧ n ≤ 65535
  | .u32, n => 0 ≤ n ∧ n ≤ 4294967295
  | .u64, n => 0 ≤ n ∧ n ≤ 18446744073709551615
theorem inK_wf {k : IntKind} {n : Int} : inK k n ↔ (Lit.int k n).wf = true := by
  cases k <;> simp [inK, Lit.wf, IntKind.min, IntKind.max, IntKind.signed, IntKind.bits]
def okV : Value → Prop
  | .int k n => inK k n
  | .string s => s.size ≤ maxLen
  | v => v.oneCell' = true
abbrev Env := List Value
mutual
def RelC (E : Env) (g : World) : Cl → Value → Prop
  | .k v, u => u = v ∧ okV v
  | .d e x, u => IsD e g u x
  | .de e x i off, u => (0 ≤ i ∧ i < x.length ∧ off ≤ e.size) ∧ ∃ v, IsD e g v x ∧ u = addP (elemP e.size v i) off
  | .p l off, u => ∃ b, E[l]? = some (ptr b 0) ∧ u = ptr b off
  | .o l, u => E[l]? = some u ∧ ∃ a n c, u = .slice a n c
  | .os l sz lo hi, u => ∃ v, E[l]? = some v ∧ u = sliceV sz v lo hi ∧ ∃ a n c, u = .slice a n c
  | .oe l sz i off, u => ∃ v, E[l]? = some v ∧ u = addP (elemP sz v i) off ∧ ∃ a, u = .pointer (some a)
  | .m l, u => ∃ b, E[l]? = some (ptr b 0) ∧ u = .map (some b)
  | .sc l off n, u => ∃ b c, E[l]? = some (ptr b 0) ∧ (n ≤ c ∧ c ≤ maxLen) ∧ u = .slice (some ⟨b, off, none⟩) n c
  | .fn f caps, u => ∃ us, RelCs E g caps us ∧ u = .func (.func f) #[] us.toArray
  | .ifc t c, u => ∃ v, RelC E g c v ∧ u = .iface t v
  | .unk, u => u.oneCell' = true
def RelCs (E : Env) (g : World) : List Cl → List Value → Prop
  | [], us => us = []
  | c :: l, us => ∃ u r, us = u :: r ∧ RelC E g c u ∧ RelCs E g l r
end
section
variable {E E' : Env} {g g' : World}
/-- What is known stays known: more objects, more that is held. -/
def EnvLe (E E' : Env) : Prop := ∀ (l : Nat) (v : Value), E[l]? = some v → E'[l]? = some v
theorem EnvLe.refl (E : Env) : EnvLe E E := fun _ _ h => h
theorem EnvLe.trans {A B C : Env} (h : EnvLe A B) (k : EnvLe B C) : EnvLe A C := fun l v e => k l v (h l v e)
theorem EnvLe.app (E L : Env) : EnvLe E (E ++ L) := fun l v h => by
  have hl := (List.getElem?_eq_some_iff.1 h).1
  rw [List.getElem?_append_left hl]; exact h
mutual
theorem RelC.mono (he : EnvLe E E') (m : Mono g g') : ∀ {c : Cl} {u : Value}, RelC E g c u → RelC E' g' c u
  | .k _, _, h => h
  | .d _ _, _, h => IsD.mono m h
  | .de _ _ _ _, _, ⟨h, v, h1, h2⟩ => ⟨h, v, h1.mono m, h2⟩
  | .p _ _, _, ⟨b, h1, h2⟩ => ⟨b, he _ _ h1, h2⟩
  | .o _, _, ⟨h, h2⟩ => ⟨he _ _ h, h2⟩
  | .os _ _ _ _, _, ⟨v, h1, h2⟩ => ⟨v, he _ _ h1, h2⟩
  | .oe _ _ _ _, _, ⟨v, h1, h2⟩ => ⟨v, he _ _ h1, h2⟩
  | .m _, _, ⟨b, h1, h2⟩ => ⟨b, he _ _ h1, h2⟩
  | .sc _ _ _, _, ⟨b, c, h1, h2⟩ => ⟨b, c, he _ _ h1, h2⟩
  | .fn _ _, _, ⟨us, h1, h2⟩ => ⟨us, h1.mono he m, h2⟩
  | .ifc _ _, _, ⟨v, h1, h2⟩ => ⟨v, h1.mono he m, h2⟩
  | .unk, _, h => h
theorem RelCs.mono (he : EnvLe E E') (m : Mono g g') : ∀ {l : List Cl} {us : List Value}, RelCs E g l us → RelCs E' g' l us
  | [], _, h => h
  | _ :: _, _, ⟨u, r, e, h1, h2⟩ => ⟨u, r, e, h1.mono he m, h2.mono he m⟩
end
theorem RelCs.nil : RelCs E g [] [] := rfl
theorem RelCs.cons {c : Cl} {u : Value} {l : List Cl} {us : List Value} (h : RelC E g c u) (k : RelCs E g l us) : RelCs E g (c :: l) (u :: us) := ⟨u, us, rfl, h, k⟩
theorem RelCs.length : ∀ {l : List Cl} {us : List Value}, RelCs E g l us → us.length = l.length
  | [], _, h => by rw [show _ = _ from h]; rfl
  | _ :: _, _, ⟨_, _, e, _, h⟩ => by rw [e, List.length_cons, List.length_cons, h.length]
theorem RelCs.app : ∀ {l k : List Cl} {us vs : List Value}, RelCs E g l us → RelCs E g k vs → RelCs E g (l ++ k) (us ++ vs)
  | [], _, _, _, h, hk => by rw [show _ = _ from h]; exact hk
  | _ :: _, _, _, _, ⟨u, r, e, h1, h2⟩, hk => by rw [e]; exact ⟨u, r ++ _, rfl, h1, h2.app hk⟩
theorem RelCs.split : ∀ {l k : List Cl} {us : List Value}, RelCs E g (l ++ k) us → ∃ u1 u2, us = u1 ++ u2 ∧ RelCs E g l u1 ∧ RelCs E g k u2
  | [], _, us, h => ⟨[], us, rfl, rfl, h⟩
  | _ :: l, _, _, ⟨u, r, e, h1, h2⟩ => by
    obtain ⟨u1, u2, e2, h3, h4⟩ := RelCs.split (l := l) h2
    exact ⟨u :: u1, u2, by rw [e, e2]; rfl, ⟨u, u1, rfl, h1, h3⟩, h4⟩
theorem RelCs.get : ∀ {l : List Cl} {us : List Value} {i : Nat} {c : Cl}, RelCs E g l us → l[i]? = some c → ∃ u, us[i]? = some u ∧ RelC E g c u
  | [], _, _, _, _, h => by simp at h
  | x :: l, _, 0, c, ⟨u, r, e, h1, _⟩, h => by
    have : x = c := by simpa using h
    subst this
    exact ⟨u, by rw [e]; rfl, h1⟩
  | x :: l, _, i + 1, c, ⟨u, r, e, _, h2⟩, h => by
    obtain ⟨v, h3, h4⟩ := RelCs.get (i := i) h2 (by simpa using h)
    exact ⟨v, by rw [e]; simpa using h3, h4⟩
theorem RelCs.drop : ∀ {l : List Cl} {us : List Value} (n : Nat), RelCs E g l us → RelCs E g (l.drop n) (us.drop n)
  | _, _, 0, h => h
  | [], us, n + 1, h => by rw [show us = [] from h]; exact RelCs.nil
  | _ :: l, _, n + 1, ⟨u, r, e, _, h2⟩ => by rw [e]; exact h2.drop n
theorem RelCs.take : ∀ {l : List Cl} {us : List Value} (n : Nat), RelCs E g l us → RelCs E g (l.take n) (us.take n)
  | _, _, 0, h => rfl
  | [], us, n + 1, h => by rw [show us = [] from h]; exact RelCs.nil
  | _ :: l, _, n + 1, ⟨u, r, e, h1, h2⟩ => by rw [e]; exact ⟨u, r.take n, rfl, h1, h2.take n⟩
theorem RelCs.set : ∀ {l : List Cl} {us : List Value} (i : Nat) {c : Cl} {u : Value}, RelCs E g l us → RelC E g c u → RelCs E g (l.set i c) (us.set i u)
  | [], us, _, _, _, h, _ => by rw [show us = [] from h]; exact RelCs.nil
  | _ :: l, _, 0, c, u, ⟨x, r, e, _, h2⟩, hc => by rw [e]; exact ⟨u, r, rfl, hc, h2⟩
  | _ :: l, _, i + 1, c, u, ⟨x, r, e, h1, h2⟩, hc => by rw [e]; exact ⟨x, r.set i u, rfl, h1, h2.set i hc⟩
end

/-! ### The cells of a datum -/
def Ty.cells : (τ : Ty) → τ.den → List Cl
  | .int k, n => [.k (.int k n)]
  | .u8, b => [.k (.int .u8 (b.toNat : Int))]
  | .str, s => [.k (.string s)]
  | .bool, b => [.k (.bool b)]
  | .unit, _ => []
  | .pair a b, x => a.cells x.1 ++ b.cells x.2
  | .sl e, x => [.d e x]
/-- What holds of every datum that is there. -/
def Ty.ok : (τ : Ty) → τ.den → Prop
  | .int k, n => inK k n
  | .str, s => s.size ≤ 9223372036854775807
  | .pair a b, x => a.ok x.1 ∧ b.ok x.2
  | .sl _, x => x.length ≤ 9223372036854775807
  | _, _ => True
theorem isD_len {e : Ty} {g : World} {v : Value} {x : List e.den} (h : IsD e g v x) : x.length ≤ 9223372036854775807 := by
  have := @Is.len_le e.den e.rep g v x h
  omega
theorem Ty.cells_length : ∀ (τ : Ty) (x : τ.den), (τ.cells x).length = τ.size
  | .int _, _ | .u8, _ | .str, _ | .bool, _ | .unit, _ | .sl _, _ => rfl
  | .pair a b, x => by
    show (a.cells x.1 ++ b.cells x.2).length = a.size + b.size
    rw [List.length_append, a.cells_length, b.cells_length]
theorem rel_cells (E : Env) (g : World) : ∀ (τ : Ty) {x : τ.den} {us : List Value}, τ.rep.rel g us x → RelCs E g (τ.cells x) us ∧ τ.ok x
  | .int k, x, us, h => ⟨⟨_, [], h.1, ⟨rfl, inK_wf.2 h.2⟩, rfl⟩, inK_wf.2 h.2⟩
  | .u8, x, us, h => ⟨⟨_, [], h, ⟨rfl, by
      have h1 : x.toNat < 256 := UInt8.toNat_lt x
      show (0 : Int) ≤ (x.toNat : Int) ∧ (x.toNat : Int) ≤ 255
      omega⟩, rfl⟩, trivial⟩
  | .str, x, us, h => ⟨⟨_, [], h.1, ⟨rfl, h.2⟩, rfl⟩, h.2⟩
  | .bool, x, us, h => ⟨⟨_, [], h, ⟨rfl, rfl⟩, rfl⟩, trivial⟩
  | .unit, x, us, h => ⟨h, trivial⟩
  | .pair a b, x, us, ⟨c1, c2, e, h1, h2⟩ => by
    obtain ⟨p1, p2⟩ := rel_cells E g a h1
    obtain ⟨q1, q2⟩ := rel_cells E g b h2
    rw [e]
    exact ⟨p1.app q1, p2, q2⟩
  | .sl e, x, us, ⟨v, h1, h2⟩ => by
    have hv : IsD e g v x := (@is_list e.den e.rep g v x).2 h2
    exact ⟨⟨v, [], h1, hv, rfl⟩, isD_len hv⟩
theorem cells_rel {E : Env} {g : World} : ∀ (τ : Ty) {x : τ.den} {us : List Value}, RelCs E g (τ.cells x) us → τ.rep.rel g us x
  | .int k, x, us, ⟨u, r, e, ⟨h1, h2⟩, h3⟩ => by
    rw [show r = [] from h3] at e
    subst h1
    exact ⟨e, inK_wf.1 h2⟩
  | .u8, x, us, ⟨u, r, e, ⟨h1, h2⟩, h3⟩ => by
    rw [show r = [] from h3] at e
    subst h1
    exact e
  | .str, x, us, ⟨u, r, e, ⟨h1, h2⟩, h3⟩ => by
    rw [show r = [] from h3] at e
    subst h1
    exact ⟨e, h2⟩
  | .bool, x, us, ⟨u, r, e, ⟨h1, h2⟩, h3⟩ => by
    rw [show r = [] from h3] at e
    subst h1
    exact e
  | .unit, x, us, h => h
  | .pair a b, x, us, h => by
    obtain ⟨u1, u2, e, h1, h2⟩ := RelCs.split h
    exact ⟨u1, u2, e, cells_rel a h1, cells_rel b h2⟩
  | .sl e, x, us, ⟨u, r, eq, h1, h3⟩ => by
    rw [show r = [] from h3] at eq
    exact ⟨u, eq, (@is_list e.den e.rep g u x).1 h1⟩

/-- A datum read out of cells. -/
def ofInt (k : IntKind) : List Cl → Option (Int × List Cl)
  | .k (.int k' n) :: r => if k' = k then some (n, r) else none
  | _ => none
def ofU8 : List Cl → Option (UInt8 × List Cl)
  | .k (.int .u8 n) :: r => some (UInt8.ofNat n.toNat, r)
  | _ => none
def ofStr : List Cl → Option (ByteArray × List Cl)
  | .k (.string s) :: r => some (s, r)
  | _ => none
def ofBool : List Cl → Option (Bool × List Cl)
  | .k (.bool b) :: r => some (b, r)
  | _ => none
def castD {e e' : Ty} (h : e' = e) (x : List e'.den) : List e.den := h ▸ x
/-- A list of the one type, as one of the other. -/
def asD {e' : Ty} (e : Ty) (x : List e'.den) : Option (List e.den) := if h : e'.beq e = true then some (castD (Ty.eq_of_beq h) x) else none
theorem asD_some {e e' : Ty} {x : List e'.den} {y : List e.den} (h : asD e x = some y) : ∃ q : e' = e, y = castD q x := by
  unfold asD at h
  split at h
  · exact ⟨_, (Option.some.inj h).symm⟩
  · cases h
def ofSl (e : Ty) : List Cl → Option (List e.den × List Cl)
  | .k (.slice none 0 0) :: r => some ([], r)
  | .d _ x :: r => match asD e x with
    | some y => some (y, r)
    | none => none
  | _ => none
def Ty.of : (τ : Ty) → List Cl → Option (τ.den × List Cl)
  | .int k, l => ofInt k l
  | .u8, l => ofU8 l
  | .str, l => ofStr l
  | .bool, l => ofBool l
  | .unit, l => some ((), l)
  | .pair a b, l => match a.of l with
    | some (x, r) => match b.of r with
      | some (y, r') => some ((x, y), r')
      | none => none
    | none => none
  | .sl e, l => ofSl e l
theorem of_cells {E : Env} {g : World} : ∀ (τ : Ty) {l r : List Cl} {x : τ.den} {us : List Value}, τ.of l = some (x, r) → RelCs E g l us → ∃ u1 u2, us = u1 ++ u2 ∧ τ.rep.rel g u1 x ∧ RelCs E g r u2
  | .int k, l, r, x, us, h, hr => by
    change ofInt k l = _ at h
    unfold ofInt at h
    split at h
    · split at h
      · rename_i hk
        subst hk
        cases h
        obtain ⟨u, r1, e, ⟨h1, h2⟩, h3⟩ := hr
        subst h1
        exact ⟨[_], r1, e, ⟨rfl, inK_wf.1 h2⟩, h3⟩
      · cases h
    · cases h
  | .u8, l, r, x, us, h, hr => by
    change ofU8 l = _ at h
    unfold ofU8 at h
    split at h
    · cases h
      obtain ⟨u, r1, e, ⟨h1, h2⟩, h3⟩ := hr
      subst h1
      refine ⟨[_], r1, e, ?_, h3⟩
      rename_i n
      have h2' : 0 ≤ n ∧ n ≤ 255 := h2
      show [Value.int .u8 n] = [Value.int .u8 ((UInt8.ofNat n.toNat).toNat : Int)]
      have : ((UInt8.ofNat n.toNat).toNat : Int) = n := by
        simp [UInt8.toNat_ofNat']
        omega
      rw [this]
    · cases h
  | .str, l, r, x, us, h, hr => by
    change ofStr l = _ at h
    unfold ofStr at h
    split at h
    · cases h
      obtain ⟨u, r1, e, ⟨h1, h2⟩, h3⟩ := hr
      subst h1
      exact ⟨[_], r1, e, ⟨rfl, h2⟩, h3⟩
    · cases h
  | .bool, l, r, x, us, h, hr => by
    change ofBool l = _ at h
    unfold ofBool at h
    split at h
    · cases h
      obtain ⟨u, r1, e, ⟨h1, h2⟩, h3⟩ := hr
      subst h1
      exact ⟨[_], r1, e, rfl, h3⟩
    · cases h
  | .unit, l, r, x, us, h, hr => by
    cases h
    exact ⟨[], us, rfl, rfl, hr⟩
  | .pair a b, l, r, x, us, h, hr => by
    unfold Ty.of at h
    cases ha : a.of l with
    | none => simp [ha] at h
    | some p =>
      obtain ⟨x1, r1⟩ := p
      cases hb : b.of r1 with
      | none => simp [ha, hb] at h
      | some q =>
        obtain ⟨x2, r2⟩ := q
        simp [ha, hb] at h
        obtain ⟨rfl, rfl⟩ := h
        obtain ⟨u1, u2, e1, h1, h2⟩ := of_cells a ha hr
        obtain ⟨u3, u4, e2, h3, h4⟩ := of_cells b hb h2
        exact ⟨u1 ++ u3, u4, by rw [e1, e2, List.append_assoc], ⟨u1, u3, rfl, h1, h3⟩, h4⟩
  | .sl e, l, r, x, us, h, hr => by
    change ofSl e l = _ at h
    unfold ofSl at h
    split at h
    · cases h
      obtain ⟨u, r1, eq, ⟨h1, h2⟩, h3⟩ := hr
      subst h1
      exact ⟨[_], r1, eq, ⟨_, rfl, .inl ⟨rfl, rfl⟩⟩, h3⟩
    · split at h
      · rename_i he
        obtain ⟨q, hy⟩ := asD_some he
        subst q
        cases h
        subst hy
        obtain ⟨u, r1, eq, h1, h3⟩ := hr
        exact ⟨[u], r1, eq, ⟨u, rfl, (@is_list _ (Ty.rep _) g u _).1 h1⟩, h3⟩
      · cases h
    · cases h
end Go.Lm

/- What is known of a heap of one's own: objects by labels. General: no program in sight. -/
namespace Go.Lm
open Go Go.RowKit

/-! ### Values -/
inductive S1
  | c (x : Cl)
  | agg (l : List Cl)
inductive SV
  | v (x : S1)
  | tup (l : List S1)
  | any
abbrev SV.c (x : Cl) : SV := .v (.c x)
abbrev SV.k (v : Value) : SV := .v (.c (.k v))
abbrev SV.int (n : Int) : SV := .v (.c (.k (.int .i64 n)))
abbrev SV.bool (b : Bool) : SV := .v (.c (.k (.bool b)))
abbrev SV.str (s : ByteArray) : SV := .v (.c (.k (.string s)))
abbrev SV.und : SV := .tup []
def RelS (E : Env) (g : World) : S1 → Value → Prop
  | .c x, u => RelC E g x u
  | .agg l, u => ∃ us, RelCs E g l us ∧ u = .agg us.toArray
def RelSs (E : Env) (g : World) : List S1 → List Value → Prop
  | [], us => us = []
  | c :: l, us => ∃ u r, us = u :: r ∧ RelS E g c u ∧ RelSs E g l r
def RelV (E : Env) (g : World) : SV → Value → Prop
  | .v x, u => RelS E g x u
  | .tup l, u => ∃ us, RelSs E g l us ∧ u = .tuple us.toArray
  | .any, _ => True
section
variable {E E' : Env} {g g' : World}
theorem RelS.mono (he : EnvLe E E') (m : Mono g g') : ∀ {x : S1} {u : Value}, RelS E g x u → RelS E' g' x u
  | .c _, _, h => RelC.mono he m h
  | .agg _, _, ⟨us, h1, h2⟩ => ⟨us, h1.mono he m, h2⟩
theorem RelSs.mono (he : EnvLe E E') (m : Mono g g') : ∀ {l : List S1} {us : List Value}, RelSs E g l us → RelSs E' g' l us
  | [], _, h => h
  | _ :: _, _, ⟨u, r, e, h1, h2⟩ => ⟨u, r, e, h1.mono he m, h2.mono he m⟩
theorem RelV.mono (he : EnvLe E E') (m : Mono g g') : ∀ {x : SV} {u : Value}, RelV E g x u → RelV E' g' x u
  | .v _, _, h => RelS.mono he m h
  | .tup _, _, ⟨us, h1, h2⟩ => ⟨us, h1.mono he m, h2⟩
  | .any, _, _ => trivial
theorem RelSs.get : ∀ {l : List S1} {us : List Value} {i : Nat} {c : S1}, RelSs E g l us → l[i]? = some c → ∃ u, us[i]? = some u ∧ RelS E g c u
  | [], _, _, _, _, h => by simp at h
  | x :: l, _, 0, c, ⟨u, r, e, h1, _⟩, h => by
    have : x = c := by simpa using h
    subst this
    exact ⟨u, by rw [e]; rfl, h1⟩
  | x :: l, _, i + 1, c, ⟨u, r, e, _, h2⟩, h => by
    obtain ⟨v, h3, h4⟩ := RelSs.get (i := i) h2 (by simpa using h)
    exact ⟨v, by rw [e]; simpa using h3, h4⟩
theorem RelSs.length : ∀ {l : List S1} {us : List Value}, RelSs E g l us → us.length = l.length
  | [], _, h => by rw [show _ = _ from h]; rfl
  | _ :: _, _, ⟨_, _, e, _, h⟩ => by rw [e, List.length_cons, List.length_cons, h.length]
theorem relV_und : RelV E g .und undef := ⟨[], rfl, rfl⟩
/-- The cells of a value. -/
def S1.cells : S1 → List Cl
  | .c x => [x]
  | .agg l => l
/-- A cell's value is no row. -/
theorem RelC.one : ∀ {c : Cl} {u : Value}, RelC E g c u → u.oneCell' = true
  | .k v, _, ⟨h, hk⟩ => by
    rw [h]
    cases v <;> first | rfl | exact hk
  | .d e x, u, h => @one_is e.den e.rep _ _ _ h
  | .de e x i off, u, ⟨h0, v, h1, h2⟩ => by
    obtain ⟨cs, h3, _⟩ := elemD h1 h0.1 h0.2.1
    obtain ⟨a, ha, _⟩ := h3 g (Mono.refl g)
    rw [h2, ha]; rfl
  | .p l off, _, ⟨b, _, h⟩ => by rw [h]; rfl
  | .m l, _, ⟨b, _, h⟩ => by rw [h]; rfl
  | .sc l off n, _, ⟨b, c, _, _, h⟩ => by rw [h]; rfl
  | .fn f caps, _, ⟨us, _, h⟩ => by rw [h]; rfl
  | .ifc t c, _, ⟨v, _, h⟩ => by rw [h]; rfl
  | .unk, _, h => h
  | .o l, _, ⟨_, a, n, c, h⟩ => by rw [h]; rfl
  | .os l sz lo hi, _, ⟨_, _, _, a, n, c, h⟩ => by rw [h]; rfl
  | .oe l sz i off, _, ⟨_, _, _, a, h⟩ => by rw [h]; rfl
theorem RelCs.one : ∀ {l : List Cl} {us : List Value}, RelCs E g l us → ∀ u ∈ us, u.oneCell' = true
  | [], us, h, u, hu => by rw [show us = [] from h] at hu; cases hu
  | _ :: _, _, ⟨x, r, e, h1, h2⟩, u, hu => by
    rw [e] at hu
    rcases List.mem_cons.1 hu with hu | hu
    · rw [hu]; exact h1.one
    · exact h2.one u hu
theorem one_cells {u : Value} (h : u.oneCell' = true) : u.cells = #[u] := by cases u <;> first | rfl | cases h
/-- A value's cells. -/
theorem RelS.cells : ∀ {x : S1} {u : Value}, RelS E g x u → RelCs E g x.cells u.cells.toList
  | .c x, u, h => by
    have h' : RelC E g x u := h
    rw [one_cells h'.one]
    exact ⟨u, [], rfl, h', rfl⟩
  | .agg l, u, ⟨us, h1, h2⟩ => by rw [h2]; exact h1

/-! ### Maps: keys, values -/
inductive Kk
  | int | str
@[reducible] def Kk.den : Kk → Type
  | .int => Int
  | .str => ByteArray
@[reducible] def Kk.key : (k : Kk) → MKey k.den
  | .int => (inferInstance : MKey Int)
  | .str => (inferInstance : MKey ByteArray)
def Kk.get {α : Type} (k : Kk) (l : List (k.den × α)) (x : k.den) : Option α := @getK k.den k.key α l x
def Kk.put {α : Type} (k : Kk) (l : List (k.den × α)) (x : k.den) (v : α) : List (k.den × α) := @putK k.den k.key α l x v
def Kk.del {α : Type} (k : Kk) (l : List (k.den × α)) (x : k.den) : List (k.den × α) := @delK k.den k.key α l x
def kkOk (P : Program) (t : TypeId) (k : Kk) : Bool := match P.underlying t, k with
  | some (.int .i64), .int => true
  | some .string, .str => true
  | _, _ => false
def Kk.beq : Kk → Kk → Bool
  | .int, .int | .str, .str => true
  | _, _ => false
theorem Kk.eq_of_beq : ∀ {a b : Kk}, a.beq b = true → a = b := by
  intro a b; cases a <;> cases b <;> intro h <;> first | rfl | cases h
def castM {k' k : Kk} {e' e : Ty} (h : k' = k) (q : e' = e) (x : List (k'.den × e'.den)) : List (k.den × e.den) := h ▸ q ▸ x
def asM {k' : Kk} {e' : Ty} (k : Kk) (e : Ty) (x : List (k'.den × e'.den)) : Option (List (k.den × e.den)) :=
  if h : k'.beq k = true then (if q : e'.beq e = true then some (castM (Kk.eq_of_beq h) (Ty.eq_of_beq q) x) else none) else none
theorem asM_some {k' k : Kk} {e' e : Ty} {x : List (k'.den × e'.den)} {y : List (k.den × e.den)} (h : asM k e x = some y) : ∃ (p : k' = k) (q : e' = e), y = castM p q x := by
  unfold asM at h
  split at h
  · split at h
    · exact ⟨_, _, (Option.some.inj h).symm⟩
    · cases h
  · cases h
/-- A value is what a datum says. -/
def IsV (g : World) (e : Ty) (u : Value) (x : e.den) : Prop := ∃ cs, e.rep.rel g cs x ∧ if e.row then u = .agg cs.toArray else cs = [u]
def MapVs (g : World) (k : Kk) (e : Ty) : List (k.den × Value) → List (k.den × e.den) → Prop
  | [], xs => xs = []
  | p :: m, xs => ∃ x r, xs = (p.1, x) :: r ∧ IsV g e p.2 x ∧ MapVs g k e m r
theorem IsV.mono (m : Mono g g') {e : Ty} {u : Value} {x : e.den} : IsV g e u x → IsV g' e u x := fun ⟨cs, h1, h2⟩ => ⟨cs, e.rep.mono m h1, h2⟩
theorem MapVs.mono (m : Mono g g') {k : Kk} {e : Ty} : ∀ {l : List (k.den × Value)} {xs : List (k.den × e.den)}, MapVs g k e l xs → MapVs g' k e l xs
  | [], _, h => h
  | _ :: _, _, ⟨x, r, q, h1, h2⟩ => ⟨x, r, q, h1.mono m, h2.mono m⟩

/-! ### Objects -/
/-- Objects of some kind, in some state. -/
inductive AbK
  | iter (z : ByteArray) (p : Nat)
  | bld (t e : TypeId) (x : List UInt8)
def slO (e : Ty) (t : TypeId) (v : Value) (xs : List e.den) : Atom := @slA e.den e.rep t v xs
/-- A strings.Builder: its own address (or none yet), and a row of bytes of its own. -/
def bldA (t e : TypeId) (x : List UInt8) (v : Value) : Atom :=
  exA fun (q : Nat × Value × Value) => [pureA (v = ptr q.1 0 ∧ (q.2.1 = .pointer none ∨ q.2.1 = ptr q.1 0)), Lm.blk q.1 #[q.2.1, q.2.2] t, slO .u8 e q.2.2 x]
def AbK.atom : AbK → Value → Atom
  | .iter z p, v => ⟨fun _ h => z.size ≤ maxLen ∧ ∃ b, v = ptr b 0 ∧ h b = some (.stringIter z p), fun _ h => h⟩
  | .bld t e x, v => bldA t e x v
inductive HO
  | cells (t : TypeId) (cs : List Cl)
  | sl (t : TypeId) (e : Ty) (xs : List e.den)
  | held (t : TypeId) (e : Ty) (xs : List e.den)
  | map (t : TypeId) (k : Kk) (e : Ty) (xs : List (k.den × e.den))
  | abs (a : Value → Atom)
  | ab (k : AbK)
  | gone
def cellsA (E : Env) (l : Nat) (t : TypeId) (cs : List Cl) : Atom :=
  ⟨fun g h => ∃ b us, E[l]? = some (ptr b 0) ∧ RelCs E g cs us ∧ h b = some (.cells us.toArray t (0, 0)), fun m ⟨b, us, h1, h2, h3⟩ => ⟨b, us, h1, h2.mono (EnvLe.refl _) m, h3⟩⟩
def atomO (E : Env) (l : Nat) : HO → Atom
  | .cells t cs => cellsA E l t cs
  | .sl t e xs => ⟨fun g h => ∃ v, E[l]? = some v ∧ (slO e t v xs).sat g h, fun m ⟨v, h1, h2⟩ => ⟨v, h1, Atom.mono _ m h2⟩⟩
  | .held _ e xs => ⟨fun g _ => ∃ v, E[l]? = some v ∧ IsD e g v xs, fun m ⟨v, h1, h2⟩ => ⟨v, h1, h2.mono m⟩⟩
  | .map t k e xs => ⟨fun g h => ∃ b m, E[l]? = some (ptr b 0) ∧ MapVs g k e m xs ∧ ∃ P, kkOk P t k = true ∧ (@mapA k.den k.key P t b m).sat g h, fun m ⟨b, l, h1, h2, h3⟩ => ⟨b, l, h1, h2.mono m, h3⟩⟩
  | .abs a => ⟨fun g h => ∃ v, E[l]? = some v ∧ (a v).sat g h, fun m ⟨v, h1, h2⟩ => ⟨v, h1, Atom.mono _ m h2⟩⟩
  | .ab k => ⟨fun g h => ∃ v, E[l]? = some v ∧ (k.atom v).sat g h, fun m ⟨v, h1, h2⟩ => ⟨v, h1, Atom.mono _ m h2⟩⟩
  | .gone => pureA True
def atomsO (E : Env) : Nat → List HO → List Atom
  | _, [] => []
  | l, o :: r => atomO E l o :: atomsO E (l + 1) r
theorem atomO.env (he : EnvLe E E') {l : Nat} : ∀ {o : HO} {h : Hp}, (atomO E l o).sat g h → (atomO E' l o).sat g h
  | .cells _ _, _, ⟨b, us, h1, h2, h3⟩ => ⟨b, us, he _ _ h1, h2.mono he (Mono.refl _), h3⟩
  | .sl _ _ _, _, ⟨v, h1, h2⟩ => ⟨v, he _ _ h1, h2⟩
  | .held _ _ _, _, ⟨v, h1, h2⟩ => ⟨v, he _ _ h1, h2⟩
  | .map .., _, ⟨b, m, h1, h2⟩ => ⟨b, m, he _ _ h1, h2⟩
  | .abs _, _, ⟨v, h1, h2⟩ => ⟨v, he _ _ h1, h2⟩
  | .ab _, _, ⟨v, h1, h2⟩ => ⟨v, he _ _ h1, h2⟩
  | .gone, _, h => h
variable {F : List Atom}
theorem atomsO.env (he : EnvLe E E') : ∀ {H : List HO} {k : Nat} {h : Hp}, sats g (atomsO E k H ++ F) h → sats g (atomsO E' k H ++ F) h
  | [], _, _, s => s
  | _ :: _, _, _, ⟨h1, h2, ap, e, s1, s2⟩ => ⟨h1, h2, ap, e, atomO.env he s1, atomsO.env he s2⟩
theorem atomsO_length : ∀ (H : List HO) (k : Nat), (atomsO E k H).length = H.length
  | [], _ => rfl
  | _ :: r, k => by simp [atomsO, atomsO_length r (k + 1)]
theorem nthA_atoms : ∀ {H : List HO} {k l : Nat} {o : HO}, H[l]? = some o → nthA (atomsO E k H ++ F) l = some (atomO E (k + l) o)
  | [], _, _, _, h => by simp at h
  | x :: r, k, 0, o, h => by
    have : x = o := by simpa using h
    subst this; rfl
  | x :: r, k, l + 1, o, h => by
    have := nthA_atoms (H := r) (k := k + 1) (l := l) (o := o) (by simpa using h)
    rw [show k + (l + 1) = k + 1 + l by omega]
    exact this
theorem setA_atoms : ∀ {H : List HO} {k l : Nat} {o' : HO}, l < H.length → setA (atomsO E k H ++ F) l (atomO E (k + l) o') = atomsO E k (H.set l o') ++ F
  | [], _, _, _, h => by simp at h
  | x :: r, k, 0, o', h => rfl
  | x :: r, k, l + 1, o', h => by
    have := setA_atoms (H := r) (k := k + 1) (l := l) (o' := o') (by simpa using h)
    rw [show k + (l + 1) = k + 1 + l by omega]
    show atomO E k x :: setA (atomsO E (k + 1) r ++ F) l _ = atomO E k x :: (atomsO E (k + 1) (r.set l o') ++ F)
    rw [this]
theorem sats.toEnd {a : Atom} : ∀ {A : List Atom} {h : Hp}, sats g (a :: (A ++ F)) h → sats g (A ++ a :: F) h
  | [], _, s => s
  | _ :: _, _, s => by
    obtain ⟨h1, h2, ap, e, s1, s2⟩ := s.swap
    exact ⟨h1, h2, ap, e, s1, sats.toEnd s2⟩
theorem sats.ofEnd {a : Atom} : ∀ {A : List Atom} {h : Hp}, sats g (A ++ a :: F) h → sats g (a :: (A ++ F)) h
  | [], _, s => s
  | _ :: _, _, ⟨h1, h2, ap, e, s1, s2⟩ => sats.swap ⟨h1, h2, ap, e, s1, sats.ofEnd s2⟩
theorem atomsO_app : ∀ (H K : List HO) (k : Nat), atomsO E k (H ++ K) = atomsO E k H ++ atomsO E (k + H.length) K
  | [], _, _ => rfl
  | x :: r, K, k => by
    show atomO E k x :: atomsO E (k + 1) (r ++ K) = atomO E k x :: (atomsO E (k + 1) r ++ atomsO E (k + (r.length + 1)) K)
    rw [atomsO_app r K (k + 1), show k + 1 + r.length = k + (r.length + 1) by omega]
/-- What is owned: the objects of one's own, and what the caller owns besides. -/
structure Sat (W : Base) (E : Env) (g w : World) (H : List HO) (F : List Atom) : Prop where
  sl : SL W g w (atomsO E 0 H ++ F)
  len : E.length = H.length
variable {W : Base} {w w' : World} {H : List HO}
theorem Sat.pick {l : Nat} {o : HO} (S : Sat W E g w H F) (h : H[l]? = some o) : SL W g w (atomO E l o :: dropA (atomsO E 0 H ++ F) l) := by
  have := S.sl.pick l (nthA_atoms h)
  rw [Nat.zero_add] at this; exact this
theorem Sat.back {l : Nat} {o : HO} (o' : HO) (hl : E.length = H.length) (h : H[l]? = some o) (S : SL W g w (atomO E l o' :: dropA (atomsO E 0 H ++ F) l)) : Sat W E g w (H.set l o') F := by
  have hlt := (List.getElem?_eq_some_iff.1 h).1
  refine ⟨?_, by simp [hl]⟩
  have := S.unpick l (nthA_atoms h)
  have h2 := setA_atoms (E := E) (F := F) (k := 0) (o' := o') hlt
  rw [Nat.zero_add] at h2
  rw [← h2]; exact this
/-- A new object. -/
theorem Sat.push {o : HO} {v : Value} (hl : E.length = H.length) (S : SL W g w (atomO (E ++ [v]) H.length o :: (atomsO E 0 H ++ F))) : Sat W (E ++ [v]) g w (H ++ [o]) F := by
  refine ⟨?_, by simp [hl]⟩
  rw [atomsO_app, List.append_assoc, Nat.zero_add]
  refine S.weak fun h s => ?_
  obtain ⟨h1, h2, ap, e, s1, s2⟩ := s
  exact sats.toEnd ⟨h1, h2, ap, e, s1, atomsO.env (EnvLe.app E [v]) s2⟩
/-- One object goes, another comes. -/
theorem Sat.move {l : Nat} {o o2 : HO} {v : Value} (hl : E.length = H.length) (h : H[l]? = some o) (S : SL W g w (atomO (E ++ [v]) H.length o2 :: dropA (atomsO E 0 H ++ F) l)) : Sat W (E ++ [v]) g w (H.set l .gone ++ [o2]) F := by
  have hlen : (H.set l .gone).length = H.length := List.length_set
  refine Sat.push (H := H.set l .gone) (by simp [hl]) ?_
  rw [hlen]
  refine S.weak fun h0 s => ?_
  obtain ⟨h1, h2, ap, e, s1, s2⟩ := s
  refine ⟨h1, h2, ap, e, s1, ?_⟩
  have hlt := (List.getElem?_eq_some_iff.1 h).1
  have h3 := setA_atoms (E := E) (F := F) (k := 0) (o' := .gone) hlt
  rw [Nat.zero_add] at h3
  rw [← h3]
  exact sats.unpick (nthA_atoms h) ⟨fun _ => none, h2, fun _ => .inl rfl, by funext b; rfl, trivial, s2⟩
theorem Sat.le (S : Sat W E g w H F) (l : Le w w') : Sat W E g w' H F := ⟨S.sl.le l, S.len⟩
theorem Sat.m (S : Sat W E g w H F) : Mono g w := S.sl.m
end
end Go.Lm

/- What a function's text asks, reckoned from what is known (a machine of what is known). General: no program in sight. -/
namespace Go.Lm
open Go Go.RowKit

/-! ### Frames and heaps -/
abbrev Slots := List (Nat × SV)
def lookS : Slots → Nat → Option SV
  | [], _ => none
  | (k, v) :: s, t => bif Nat.beq k t then some v else lookS s t
def lookO : List (Nat × HO) → Nat → Option HO
  | [], _ => none
  | (k, v) :: s, t => bif Nat.beq k t then some v else lookO s t
def nthH : List HO → Nat → HO
  | [], _ => .gone
  | o :: _, 0 => o
  | _ :: r, i + 1 => nthH r i
/-- What stands fast while a piece of code is run (its loop's head), and what has turned since. -/
structure Bs where
  f : Slots
  h : List HO
structure Ov where
  f : Slots
  h : List (Nat × HO)
  n : Nat
def Bs.slot (b : Bs) (s : Ov) (t : Nat) : Option SV := match lookS s.f t with
  | some v => some v
  | none => lookS b.f t
def Bs.obj (b : Bs) (s : Ov) (l : Nat) : HO := match lookO s.h l with
  | some o => o
  | none => nthH b.h l
def Bs.heap (b : Bs) (s : Ov) : List HO := (List.range s.n).map (b.obj s)
def Ov.put (s : Ov) (d : Option Nat) (v : SV) : Ov := match d with
  | some t => { s with f := (t, v) :: s.f }
  | none => s
def Ov.setO (s : Ov) (l : Nat) (o : HO) : Ov := { s with h := (l, o) :: s.h }
def Ov.new (s : Ov) (o : HO) : Ov := { s with h := (s.n, o) :: s.h, n := s.n + 1 }

/-! ### Operands -/
def okB : Value → Bool
  | .int k n => (Lit.int k n).wf
  | .string s => decide (s.size ≤ maxLen)
  | v => v.oneCell'
def constCs : List Value → Option (List Cl)
  | [] => some []
  | v :: r => if okB v then (match constCs r with | some l => some (.k v :: l) | none => none) else none
def constV : Value → Option SV
  | .agg cs => match constCs cs.toList with
    | some l => some (.v (.agg l))
    | none => none
  | v => if okB v then some (.k v) else none
def opd (b : Bs) (s : Ov) : Operand → Option SV
  | .tmp t => b.slot s t
  | .const v => constV v
  | .func f => some (.c (.fn f []))
  | .global _ => none

/-! ### Single operations -/
/-- A way that is parted. -/
def br (c : Bool) (p q : Prop) : Prop := Bool.rec q p c
def sEq (a b : ByteArray) : Bool := a.toList == b.toList
def sLt (a b : ByteArray) : Bool := Op.bytesLess a.toList b.toList
def arith (k : IntKind) (z : Int) (K : SV → Prop) : Prop := match k with
  | .i64 => inK .i64 z ∧ K (.int z)
  | k => inK k (k.wrap z) → K (.k (.int k (k.wrap z)))
def bitsI (op : BinOp) (k : IntKind) (x y : Int) : Int :=
  let a := BitVec.ofInt k.bits x
  let b := BitVec.ofInt k.bits y
  k.wrap ((match op with
    | .and => a &&& b
    | .or => a ||| b
    | .xor => a ^^^ b
    | _ => a &&& ~~~b).toNat)
def shlI (k : IntKind) (x y : Int) : Int := k.wrap (x * 2 ^ (min y.toNat k.bits))
def shrI (k : IntKind) (x y : Int) : Int := x.fdiv (2 ^ (min y.toNat k.bits))
def intB (op : BinOp) (k : IntKind) (x y : Int) (K : SV → Prop) : Prop := match op with
  | .add => arith k (x + y) K
  | .sub => arith k (x - y) K
  | .mul => arith k (x * y) K
  | .quo => y ≠ 0 ∧ arith k (x.tdiv y) K
  | .rem => y ≠ 0 ∧ (inK k (x.tmod y) → K (.k (.int k (x.tmod y))))
  | .eql => K (.bool (x == y))
  | .neq => K (.bool (x != y))
  | .lss => K (.bool (decide (x < y)))
  | .leq => K (.bool (decide (x ≤ y)))
  | .gtr => K (.bool (decide (x > y)))
  | .geq => K (.bool (decide (x ≥ y)))
  | .shl | .shr => False
  | op => inK k (bitsI op k x y) → K (.k (.int k (bitsI op k x y)))
def strB (op : BinOp) (x y : ByteArray) (K : SV → Prop) : Prop := match op with
  | .add => x.size + y.size ≤ 9223372036854775807 ∧ K (.str (x ++ y))
  | .eql => K (.bool (sEq x y))
  | .neq => K (.bool (!sEq x y))
  | .lss => K (.bool (sLt x y))
  | .leq => K (.bool (sLt x y || sEq x y))
  | .gtr => K (.bool (!(sLt x y || sEq x y)))
  | .geq => K (.bool (!sLt x y))
  | _ => False
/-- What is not nil, for certain; a slice may be nil if it is empty. -/
inductive Nil
  | yes | no | may (p : Prop) | unknown
def nilOf (b : Bs) (s : Ov) : Cl → Nil
  | .k (.pointer none) | .k (.slice none 0 0) | .k (.map none) | .k .nilFunc | .k .nilIface => .yes
  | .p .. | .de .. | .oe .. | .m .. | .fn .. | .ifc .. => .no
  | .d _ x => .may (x = [])
  | .o l => match b.obj s l with
    | .sl _ _ x | .held _ _ x => .may (x = [])
    | _ => .unknown
  | _ => .unknown
/-- The nil of a type. -/
def nilTy (d : Option TypeDesc) (y : Cl) : Bool := match d, y with
  | some (.pointer _), .k (.pointer none) => true
  | some (.slice _), .k (.slice none 0 0) => true
  | some (.map _ _), .k (.map none) => true
  | some (.func _ _ _), .k .nilFunc => true
  | some (.interface _), .k .nilIface => true
  | _, _ => false
/-- Is a value one that such a type has? -/
def ofTy (d : Option TypeDesc) (y : Cl) : Bool := match d, y with
  | some (.pointer _), .k (.pointer none) | some (.pointer _), .p .. | some (.pointer _), .de .. | some (.pointer _), .oe .. => true
  | some (.slice _), .k (.slice none 0 0) | some (.slice _), .d .. | some (.slice _), .o .. => true
  | some (.map _ _), .k (.map none) | some (.map _ _), .m .. => true
  | some (.func _ _ _), .k .nilFunc | some (.func _ _ _), .fn .. => true
  | some (.interface _), .k .nilIface | some (.interface _), .ifc .. => true
  | _, _ => false
def isIface : Cl → Bool
  | .k .nilIface => true
  | _ => false
def nilK (b : Bs) (s : Ov) (cst : Bool) (c : Cl) (eq : Bool) (K : SV → Prop) : Prop := match nilOf b s c with
  | .yes => if isIface c && !cst then False else K (.bool eq)
  | .no => K (.bool (!eq))
  | .may p => ∀ c : Bool, (c = true → p) → K (.bool (if eq then c else !c))
  | .unknown => False
def isEq : BinOp → Option Bool
  | .eql => some true
  | .neq => some false
  | _ => none
/-- '==' field by field. -/
def eqFs (P : Program) : (fuel : Nat) → List Field → List Cl → List Cl → Option Bool
  | 0, _, _, _ => none
  | _ + 1, [], _, _ => some true
  | d + 1, f :: fs, xs, ys => if f.name != "_" then (match P.underlying f.type, P.info? f.type with
    | some (.int k0), some i => if Nat.beq i.size 1 then (match xs[f.offset]?, ys[f.offset]? with
      | some (.k (.int k a)), some (.k (.int k' b)) => if IntKind.beq k0 k && IntKind.beq k k' then (match eqFs P d fs xs ys with
        | some r => some ((a == b) && r)
        | none => none) else none
      | _, _ => none) else none
    | some .bool, some i => if Nat.beq i.size 1 then (match xs[f.offset]?, ys[f.offset]? with
      | some (.k (.bool a)), some (.k (.bool b)) => (match eqFs P d fs xs ys with
        | some r => some ((a == b) && r)
        | none => none)
      | _, _ => none) else none
    | some .string, some i => if Nat.beq i.size 1 then (match xs[f.offset]?, ys[f.offset]? with
      | some (.k (.string a)), some (.k (.string b)) => (match eqFs P d fs xs ys with
        | some r => some (sEq a b && r)
        | none => none)
      | _, _ => none) else none
    | some (.struct gs), some i => if P.stoodInHeld f.type then none else (match eqFs P d gs.toList ((xs.drop f.offset).take i.size) ((ys.drop f.offset).take i.size) with
      | some a => (match eqFs P d fs xs ys with
        | some r => some (a && r)
        | none => none)
      | none => none)
    | _, _ => none) else none
/-- Arithmetic of ints that may go round. -/
def intW (wr : Bool) (op : BinOp) (k : IntKind) (x y : Int) (K : SV → Prop) : Prop := match wr with
  | true => (match k, op with
    | .i64, .add => inK .i64 (IntKind.wrap .i64 (x + y)) → K (.int (IntKind.wrap .i64 (x + y)))
    | .i64, .sub => inK .i64 (IntKind.wrap .i64 (x - y)) → K (.int (IntKind.wrap .i64 (x - y)))
    | .i64, .mul => inK .i64 (IntKind.wrap .i64 (x * y)) → K (.int (IntKind.wrap .i64 (x * y)))
    | k, op => intB op k x y K)
  | false => intB op k x y K
/-- '==' of arrays of ints. -/
def eqInts (k0 : IntKind) : List Cl → List Cl → Option Bool
  | [], [] => some true
  | .k (.int k a) :: l, .k (.int k' b) :: m => if IntKind.beq k0 k && IntKind.beq k k' then (match eqInts k0 l m with
    | some r => some ((a == b) && r)
    | none => none) else none
  | _, _ => none
def eqArr (P : Program) (n : Nat) (e : TypeId) (l m : List Cl) : Option Bool := match P.underlying e, P.info? e with
  | some (.int k0), some i => if Nat.beq i.size 1 && Nat.beq l.length n then eqInts k0 l m else none
  | _, _ => none
def binV (wr : Bool) (P : Program) (b : Bs) (s : Ov) (cst : Bool) (op : BinOp) (t : TypeId) (x y : SV) (K : SV → Prop) : Prop := match x, y with
  | .v (.c (.k (.int k m))), .v (.c (.k (.int k' n))) => match op with
    | .shl => 0 ≤ n ∧ (inK k (shlI k m n) → K (.k (.int k (shlI k m n))))
    | .shr => 0 ≤ n ∧ (inK k (shrI k m n) → K (.k (.int k (shrI k m n))))
    | op => if IntKind.beq k k' then intW wr op k m n K else False
  | .v (.c (.k (.string m))), .v (.c (.k (.string n))) => strB op m n K
  | .v (.c (.k (.bool m))), .v (.c (.k (.bool n))) => match P.underlying t, op with
    | some .bool, .eql => K (.bool (m == n))
    | some .bool, .neq => K (.bool (!(m == n)))
    | _, _ => False
  | .v (.agg l), .v (.agg m) => match P.underlying t with
    | some (.struct fs) => if P.eqGuardType P.depth t || P.stoodInHeld t then False else (match isEq op, eqFs P 9999 fs.toList l m with
      | some true, some r => K (.bool r)
      | some false, some r => K (.bool (!r))
      | _, _ => False)
    | some (.array n e) => if P.eqGuardType P.depth t then False else (match isEq op, eqArr P n e l m with
      | some true, some r => K (.bool r)
      | some false, some r => K (.bool (!r))
      | _, _ => False)
    | _ => False
  | .v (.c x), .v (.c y) => match isEq op with
    | some e => if nilTy (P.underlying t) y && ofTy (P.underlying t) x then nilK b s cst x e K else if nilTy (P.underlying t) x && ofTy (P.underlying t) y then nilK b s cst y e K else False
    | none => False
  | _, _ => False
def unV (wr : Bool) (op : UnOp) (x : SV) (K : SV → Prop) : Prop := match op, x with
  | .not, .v (.c (.k (.bool b))) => K (.bool (!b))
  | .neg, .v (.c (.k (.int k n))) => intW wr .sub k 0 n K
  | .xor, .v (.c (.k (.int k n))) => inK k (bitsI .xor k (if k.signed then -1 else k.max) n) → K (.k (.int k (bitsI .xor k (if k.signed then -1 else k.max) n)))
  | _, _ => False
/-- What a load of type t yields from cells. -/
def part1 (P : Program) (t : TypeId) (cs : List Cl) (off : Nat) : Option S1 := match P.underlying t with
  | none => none
  | some d => if d.isRow then (match P.info? t with
      | some i => if Nat.ble (off + i.size) cs.length then some (.agg ((cs.drop off).take i.size)) else none
      | none => none)
    else match cs[off]? with
      | some c => some (.c c)
      | none => none
def zeroCs (P : Program) (t : TypeId) : Option (List Cl) := match P.info? t with
  | some i => match i.zero with
    | some z => constCs z.cells.toList
    | none => none
  | none => none
/-- The element of what reads as a list. -/
def loadV (P : Program) (b : Bs) (s : Ov) (t : TypeId) (x : Cl) (K : SV → Prop) : Prop := match x with
  | .p l off => match b.obj s l with
    | .cells _ cs => match part1 P t cs off with
      | some v => K (.v v)
      | none => False
    | _ => False
  | .de e x i off => match part1 P t (e.cells (ixD e x i)) off with
    | some v => e.ok (ixD e x i) → K (.v v)
    | none => False
  | .oe l sz i off => match b.obj s l with
    | .sl _ e xs => if Nat.beq e.size sz then (0 ≤ i ∧ i < xs.length ∧ match part1 P t (e.cells (ixD e xs i)) off with
        | some v => e.ok (ixD e xs i) → K (.v v)
        | none => False) else False
    | _ => False
  | _ => False
def setCs (cs : List Cl) (off : Nat) (l : List Cl) : List Cl := cs.take off ++ (l ++ cs.drop (off + l.length))
def storeV (P : Program) (b : Bs) (s : Ov) (t : TypeId) (x : Cl) (v : S1) (K : Ov → Prop) : Prop := match P.info? t with
  | none => False
  | some i => if Nat.beq v.cells.length i.size then match x with
    | .p l off => match b.obj s l with
      | .cells u cs => if Nat.ble (off + i.size) cs.length then K (s.setO l (.cells u (setCs cs off v.cells))) else False
      | _ => False
    | .oe l sz i off => match b.obj s l, v with
      | .sl u e xs, .c c => if Nat.beq e.size sz && Nat.blt off e.size then (0 ≤ i ∧ i < xs.length ∧ match e.of ((e.cells (ixD e xs i)).set off c) with
          | some (x', []) => K (s.setO l (.sl u e (xs.set i.toNat x')))
          | _ => False) else False
      | _, _ => False
    | _ => False
  else False
def fieldOf (P : Program) (t : TypeId) (j : Nat) : Option Field := match P.underlying t with
  | some (.struct fs) => fs[j]?
  | _ => none
def addrF (x : Cl) (o : Nat) : Option Cl := match x with
  | .p l off => some (.p l (off + o))
  | .de e x i off => if Nat.ble (off + o) e.size then some (.de e x i (off + o)) else none
  | .oe l sz i off => some (.oe l sz i (off + o))
  | _ => none
def lenV (P : Program) (b : Bs) (s : Ov) (t : TypeId) (x : Cl) (K : SV → Prop) : Prop := match P.underlying t, x with
  | some .string, .k (.string z) => K (.int z.size)
  | some (.slice _), .k (.slice none 0 0) => K (.int 0)
  | some (.map _ _), .k (.map none) => K (.int 0)
  | some (.slice _), .d _ x => x.length ≤ 9223372036854775807 → K (.int x.length)
  | some (.slice _), .sc _ _ n => n ≤ 9223372036854775807 ∧ K (.int n)
  | some (.slice _), .o l => match b.obj s l with
    | .sl _ _ xs | .held _ _ xs => xs.length ≤ 9223372036854775807 → K (.int xs.length)
    | _ => False
  | some (.map k _), .m l => match b.obj s l with
    | .map k' kk _ xs => if Nat.beq k k' && kkOk P k kk then (xs.length ≤ 9223372036854775807 → K (.int xs.length)) else False
    | _ => False
  | _, _ => False
def indexAddrV (P : Program) (b : Bs) (s : Ov) (t : TypeId) (x : Cl) (i : Int) (K : SV → Prop) : Prop := match P.underlying t with
  | some (.array n et) => match P.info? et, x with
    | some ie, .p l off => 0 ≤ i ∧ i < n ∧ K (.c (.p l (off + i.toNat * ie.size)))
    | _, _ => False
  | some (.slice et) => match P.info? et with
    | none => False
    | some ie => match x with
      | .d e x => if Nat.beq e.size ie.size then (0 ≤ i ∧ i < x.length ∧ K (.c (.de e x i 0))) else False
      | .sc l off n => 0 ≤ i ∧ i < n ∧ K (.c (.p l (off + i.toNat * ie.size)))
      | .o l => match b.obj s l with
        | .sl _ e xs => if Nat.beq e.size ie.size then (0 ≤ i ∧ i < xs.length ∧ K (.c (.oe l e.size i 0))) else False
        | .held _ e xs => if Nat.beq e.size ie.size then (0 ≤ i ∧ i < xs.length ∧ K (.c (.de e xs i 0))) else False
        | _ => False
      | _ => False
  | _ => False
def boundV : Option Int → Int → Int
  | none, n => n
  | some l, _ => l
def sliceK (P : Program) (b : Bs) (s : Ov) (t : TypeId) (x : Cl) (lo hi : Option Int) (K : SV → Prop) : Prop := match P.underlying t with
  | some .string => match x with
    | .k (.string z) => 0 ≤ boundV lo 0 ∧ boundV lo 0 ≤ boundV hi z.size ∧ boundV hi z.size ≤ z.size ∧ K (.str (z.extract (boundV lo 0).toNat (boundV hi z.size).toNat))
    | _ => False
  | some (.slice et) => match P.info? et with
    | none => False
    | some ie => match x with
      | .d e x => if Nat.beq e.size ie.size then 0 ≤ boundV lo 0 ∧ boundV lo 0 ≤ boundV hi x.length ∧ boundV hi x.length ≤ x.length ∧ K (.c (.d e ((x.drop (boundV lo 0).toNat).take ((boundV hi x.length).toNat - (boundV lo 0).toNat)))) else False
      | .o q => match b.obj s q with
        | .sl _ e x => if Nat.beq e.size ie.size then 0 ≤ boundV lo 0 ∧ boundV lo 0 ≤ boundV hi x.length ∧ boundV hi x.length ≤ x.length ∧ K (.c (.os q e.size (boundV lo 0) (boundV hi x.length))) else False
        | .held _ e x => if Nat.beq e.size ie.size then 0 ≤ boundV lo 0 ∧ boundV lo 0 ≤ boundV hi x.length ∧ boundV hi x.length ≤ x.length ∧ K (.c (.d e ((x.drop (boundV lo 0).toNat).take ((boundV hi x.length).toNat - (boundV lo 0).toNat)))) else False
        | _ => False
      | _ => False
  | some (.array n et) => match P.info? et with
    | none => False
    | some ie => match x with
      | .p l off => n ≤ 9223372036854775807 ∧ 0 ≤ boundV lo 0 ∧ boundV lo 0 < n ∧ boundV lo 0 ≤ boundV hi n ∧ boundV hi n ≤ n ∧ K (.c (.sc l (off + (boundV lo 0).toNat * ie.size) ((boundV hi n).toNat - (boundV lo 0).toNat)))
      | _ => False
  | _ => False
def intOf (b : Option SV) : Option (Option Int) := match b with
  | none => some none
  | some (.v (.c (.k (.int .i64 n)))) => some (some n)
  | _ => none
end Go.Lm

/- What a function's text asks: calls, slices of one's own, code. General: no program in sight. -/
namespace Go.Lm
open Go Go.RowKit

/-! ### Contracts -/
/-- What a call asks: the arguments, the objects that can be come to (labels 0, 1, ..), what is to hold of the result and of the objects behind the call. -/
abbrev Ct := List SV → List HO → (SV → List HO → Prop) → Prop
def lookC : List (Nat × Ct) → Nat → Ct
  | [], _ => fun _ _ _ => False
  | (k, c) :: r, f => bif Nat.beq k f then c else lookC r f
mutual
def Cl.labels : Cl → List Nat
  | .p l _ | .o l | .os l _ _ _ | .oe l _ _ _ | .m l | .sc l _ _ => [l]
  | .fn _ caps => Cl.labelss caps
  | .ifc _ c => c.labels
  | _ => []
def Cl.labelss : List Cl → List Nat
  | [] => []
  | c :: r => c.labels ++ Cl.labelss r
end
def S1.labels : S1 → List Nat
  | .c x => x.labels
  | .agg l => Cl.labelss l
def SV.labels : SV → List Nat
  | .v x => x.labels
  | .tup l => l.flatMap S1.labels
  | .any => []
def HO.labels : HO → List Nat
  | .cells _ cs => Cl.labelss cs
  | _ => []
mutual
def Cl.ren (r : Nat → Option Nat) : Cl → Cl
  | .p l off => match r l with
    | some l' => .p l' off
    | none => .unk
  | .o l => match r l with
    | some l' => .o l'
    | none => .unk
  | .os l sz lo hi => match r l with
    | some l' => .os l' sz lo hi
    | none => .unk
  | .oe l sz i off => match r l with
    | some l' => .oe l' sz i off
    | none => .unk
  | .m l => match r l with
    | some l' => .m l'
    | none => .unk
  | .sc l off n => match r l with
    | some l' => .sc l' off n
    | none => .unk
  | .fn f caps => .fn f (Cl.rens r caps)
  | .ifc t c => .ifc t (c.ren r)
  | .k v => .k v
  | .d e x => .d e x
  | .de e x i off => .de e x i off
  | .unk => .unk
def Cl.rens (r : Nat → Option Nat) : List Cl → List Cl
  | [] => []
  | c :: l => c.ren r :: Cl.rens r l
end
def S1.ren (r : Nat → Option Nat) : S1 → S1
  | .c x => .c (x.ren r)
  | .agg l => .agg (Cl.rens r l)
def S1.rens (r : Nat → Option Nat) : List S1 → List S1
  | [] => []
  | a :: l => a.ren r :: S1.rens r l
def SV.ren (r : Nat → Option Nat) : SV → SV
  | .v x => .v (x.ren r)
  | .tup l => .tup (S1.rens r l)
  | .any => .any
def HO.ren (r : Nat → Option Nat) : HO → HO
  | .cells t cs => .cells t (Cl.rens r cs)
  | o => o
def memN : Nat → List Nat → Bool
  | _, [] => false
  | n, m :: r => bif Nat.beq n m then true else memN n r
def nodupN : List Nat → Bool
  | [] => true
  | a :: r => !memN a r && nodupN r
def idxN : List Nat → Nat → Option Nat
  | [], _ => none
  | m :: r, n => bif Nat.beq m n then some 0 else match idxN r n with
    | some i => some (i + 1)
    | none => none
/-- The labels that can be come to, in the order in which they are met. -/
def reachL (ob : Nat → HO) : Nat → List Nat → List Nat → List Nat
  | 0, _, done => done
  | _ + 1, [], done => done
  | f + 1, l :: r, done => bif memN l done then reachL ob f r done else reachL ob f ((ob l).labels ++ r) (done ++ [l])
def labelsAll : List SV → List Nat
  | [] => []
  | v :: r => v.labels ++ labelsAll r
def opds (b : Bs) (s : Ov) : List Operand → Option (List SV)
  | [] => some []
  | x :: r => match opd b s x with
    | some v => match opds b s r with
      | some l => some (v :: l)
      | none => none
    | none => none
/-- A call's objects laid back over one's own. -/
def backL (ls : List Nat) (n : Nat) (l : Nat) : Option Nat := match ls[l]? with
  | some m => some m
  | none => some (n + (l - ls.length))
def layBack (ls0 : List Nat) (n0 : Nat) : List Nat → List HO → Ov → Ov
  | _, [], s => s
  | l :: ls, o :: H, s => layBack ls0 n0 ls H (s.setO l (o.ren (backL ls0 n0)))
  | [], o :: H, s => layBack ls0 n0 [] H (s.new (o.ren (backL ls0 n0)))
def funcOk (P : Program) (f : FuncId) : Bool := match P.funcs[f]? with
  | some fn => !(fn.name == "runtime.NumGoroutine") && !fn.body.isNone
  | none => false
/-- What holds of whatever is such a value. -/
def factC : Cl → Prop → Prop
  | .k (.int k n), p => inK k n → p
  | .k (.string z), p => z.size ≤ 9223372036854775807 → p
  | .d _ x, p => x.length ≤ 9223372036854775807 → p
  | _, p => p
def factCs : List Cl → Prop → Prop
  | [], p => p
  | c :: r, p => factC c (factCs r p)
def factS : S1 → Prop → Prop
  | .c c, p => factC c p
  | .agg l, p => factCs l p
def factSs : List S1 → Prop → Prop
  | [], p => p
  | c :: r, p => factS c (factSs r p)
def factV : SV → Prop → Prop
  | .v x, p => factS x p
  | .tup l, p => factSs l p
  | .any, p => p
def factVs : List SV → Prop → Prop
  | [], p => p
  | c :: r, p => factV c (factVs r p)
def callV (ct : FuncId → Ct) (b : Bs) (s : Ov) (f : FuncId) (args : List SV) (K : SV → Ov → Prop) : Prop :=
  let ls := reachL (b.obj s) 1000 (labelsAll args) []
  if nodupN ls && ls.all (fun l => Nat.blt l s.n) then
    ct f (args.map (·.ren (idxN ls))) (ls.map fun l => (b.obj s l).ren (idxN ls)) fun r H' =>
      (if Nat.ble ls.length H'.length then factV r (K (r.ren (backL ls s.n)) (layBack ls s.n ls H' s)) else False)
  else False

/-! ### Slices of one's own -/
/-- What a program is, what its functions ask, what types are data. -/
structure Vx where
  P : Program
  ct : List (Nat × Ct)
  ty : List (Nat × Ty)
  /-- Which functions' arguments are held from then on. -/
  hold : List Nat := []
  wrap : Bool := false
  /-- Which loops are gone through round by round, and how often at most. -/
  unr : List (Nat × Nat) := []
  /-- The type of strings.Builder, and of bytes. -/
  bld : Option (TypeId × TypeId) := none
def bldOf (q : Option (TypeId × TypeId)) (t : TypeId) (z : List Cl) : Option TypeId := match q, z with
  | some (t', e), [.k (.pointer none), .k (.slice none 0 0)] => if Nat.beq t' t then some e else none
  | _, _ => none
def lookN : List (Nat × Nat) → Nat → Option Nat
  | [], _ => none
  | (k, v) :: s, t => bif Nat.beq k t then some v else lookN s t
def lookT : List (Nat × Ty) → Nat → Option Ty
  | [], _ => none
  | (k, v) :: s, t => bif Nat.beq k t then some v else lookT s t
/-- Cells that are strings. -/
def strsOf : (off n : Nat) → List Cl → Option (List ByteArray)
  | 0, 0, _ => some []
  | 0, n + 1, c :: r => match c with
    | .k (.string z) => match strsOf 0 n r with
      | some l => some (z :: l)
      | none => none
    | _ => none
  | off + 1, n, _ :: r => strsOf off n r
  | _, _, [] => none
/-- Slices of one's own within cells: held from now on. -/
def holdCs (b : Bs) : List Cl → Ov → (List Cl → Ov → Prop) → Prop
  | [] => fun s k => k [] s
  | c :: r => fun s k => match c with
    | .o l => (match b.obj s l with
      | .sl t e xs => holdCs b r (s.setO l (.held t e xs)) fun r' s' => k (.d e xs :: r') s'
      | .held _ e xs => holdCs b r s fun r' s' => k (.d e xs :: r') s'
      | _ => False)
    | .sc l off n => (match b.obj s l with
      | .cells _ cs => (match strsOf off n cs with
        | some zs => holdCs b r (s.setO l .gone) fun r' s' => k (.d .str zs :: r') s'
        | none => False)
      | _ => False)
    | c => holdCs b r s fun r' s' => k (c :: r') s'
/-- .. within arguments. -/
def holdVs (b : Bs) : List SV → Ov → (List SV → Ov → Prop) → Prop
  | [] => fun s k => k [] s
  | v :: r => fun s k => match v with
    | .v (.c c) => holdCs b [c] s fun cs s => match cs with
      | [c'] => holdVs b r s fun r' s' => k (.v (.c c') :: r') s'
      | _ => False
    | .v (.agg l) => holdCs b l s fun cs s => holdVs b r s fun r' s' => k (.v (.agg cs) :: r') s'
    | v => holdVs b r s fun r' s' => k (v :: r') s'
/-- What reads as a list now. -/
def listOf (b : Bs) (s : Ov) (e : Ty) (x : Cl) : Option (List e.den) := match x with
  | .k (.slice none 0 0) => some []
  | .d _ xs => asD e xs
  | .o l => match b.obj s l with
    | .sl _ _ xs | .held _ _ xs => asD e xs
    | _ => none
  | _ => none
def ofAll (e : Ty) : Nat → List Cl → Option (List e.den)
  | 0, [] => some []
  | 0, _ => none
  | n + 1, l => match e.of l with
    | some (x, r) => match ofAll e n r with
      | some xs => some (x :: xs)
      | none => none
    | none => none
def elemT (X : Vx) (t : TypeId) : Option (TypeId × Ty × TypeInfo) := match X.P.underlying t with
  | some (.slice et) => match X.P.info? et, lookT X.ty et with
    | some ie, some e => if Nat.beq e.size ie.size then some (et, e, ie) else none
    | _, _ => none
  | _ => none
/-- The element's type is as an append wants it. -/
def appOk (X : Vx) (et : TypeId) (e : Ty) : Bool := match X.P.info? et with
  | some ie => Nat.blt 0 e.size && (match ie.zero with
    | some z => Nat.beq z.cells.size e.size
    | none => false)
  | none => false
def isU8 (X : Vx) (et : TypeId) : Bool := match X.P.info? et with
  | some ie => Nat.beq ie.size 1 && (match ie.zero with
    | some (.int .u8 0) => Nat.beq ie.bytes 1
    | _ => false)
  | none => false
def appStrV (X : Vx) (b : Bs) (s : Ov) (t t2 : TypeId) (x y : Cl) (K : SV → Ov → Prop) : Prop := match X.P.underlying t, X.P.underlying t2, y with
  | some (.slice et), some .string, .k (.string z) => if isU8 X et then (match x with
    | .k (.slice none 0 0) => z.size ≤ 140737488355328 ∧ K (.c (.o s.n)) (s.new (.sl et .u8 z.data.toList))
    | .o l => match b.obj s l with
      | .sl et' _ xs => if Nat.beq et' et then (match asD .u8 xs with
        | some xs => xs.length + z.size ≤ 140737488355328 ∧ K (.c (.o s.n)) ((s.setO l .gone).new (.sl et .u8 (xs ++ z.data.toList)))
        | none => False) else False
      | _ => False
    | _ => False) else False
  | _, _, _ => False
def appendV (X : Vx) (b : Bs) (s : Ov) (t t2 : TypeId) (x y : Cl) (K : SV → Ov → Prop) : Prop := match elemT X t with
  | none => False
  | some (et, e, ie) => if Nat.beq t t2 then (match listOf b s e y with
    | none => False
    | some ys => match x with
      | .k (.slice none 0 0) => if appOk X et e then ys.length * ie.bytes ≤ 140737488355328 ∧ K (.c (.o s.n)) (s.new (.sl et e ys)) else False
      | .o l => match b.obj s l with
        | .sl et' _ xs => if Nat.beq et' et then (match asD e xs with
          | some xs => if appOk X et e then (xs.length + ys.length) * ie.bytes ≤ 140737488355328 ∧ xs.length + ys.length ≤ 9223372036854775807 ∧ K (.c (.o s.n)) ((s.setO l .gone).new (.sl et e (xs ++ ys))) else False
          | none => False) else False
        | _ => False
      | _ => False) else appStrV X b s t t2 x y K
/-- The parts of a literal, laid over the zero's cells. -/
def fillV (place : Nat → Option (Nat × Nat)) : List Cl → List (Nat × S1) → Option (List Cl)
  | cs, [] => some cs
  | cs, (i, v) :: r => match place i with
    | none => none
    | some (off, size) => if Nat.beq v.cells.length size then (if Nat.ble (off + size) cs.length then fillV place (setCs cs off v.cells) r else none) else none
def partsV (b : Bs) (s : Ov) : List (Nat × Operand) → Option (List (Nat × S1))
  | [] => some []
  | (i, x) :: r => match opd b s x with
    | some (.v v) => match partsV b s r with
      | some l => some ((i, v) :: l)
      | none => none
    | _ => none
def buildV (P : Program) (t : TypeId) (ps : List (Nat × S1)) (K : SV → Prop) : Prop := match zeroCs P t with
  | none => False
  | some z => match P.underlying t with
    | some (.struct fs) => match fs.toList.mapM fun f => (P.info? f.type).map fun i => (f.offset, i.size) with
      | some places => match fillV (fun i => places.toArray[i]?) z ps with
        | some cs => K (.v (.agg cs))
        | none => False
      | none => False
    | some (.array _ e) => match P.info? e with
      | some ie => match fillV (fun i => some (i * ie.size, ie.size)) z ps with
        | some cs => K (.v (.agg cs))
        | none => False
      | none => False
    | _ => False
/-- A literal of what is no data (pointers, say): its cells. -/
def buildScV (X : Vx) (s : Ov) (t : TypeId) (n : Nat) (ps : List (Nat × S1)) (K : SV → Ov → Prop) : Prop := match X.P.underlying t with
  | some (.slice et) => match X.P.info? et, zeroCs X.P et with
    | some ie, some z => if Nat.ble (n * ie.size) 16777216 && (Nat.blt 0 ie.size && Nat.blt 0 n) && Nat.beq z.length ie.size then (match fillV (fun i => some (i * ie.size, ie.size)) (List.replicate n z).flatten ps with
      | none => False
      | some cs => K (.c (.sc s.n 0 n)) (s.new (.cells et cs))) else False
    | _, _ => False
  | _ => False
def buildSliceV (X : Vx) (b : Bs) (s : Ov) (t : TypeId) (n : Nat) (ps : List (Nat × S1)) (K : SV → Ov → Prop) : Prop := match elemT X t with
  | none => buildScV X s t n ps K
  | some (et, e, ie) => match zeroCs X.P et with
    | none => False
    | some z => if Nat.ble (n * ie.size) 16777216 && (Nat.blt 0 ie.size || Nat.beq n 0) && Nat.beq z.length ie.size then (match fillV (fun i => some (i * ie.size, ie.size)) (List.replicate n z).flatten ps with
      | none => False
      | some cs => holdCs b cs s fun cs' s' => match ofAll e n cs' with
        | some xs => K (.c (.o s'.n)) (s'.new (.sl et e xs))
        | none => False) else False
def convV (X : Vx) (b : Bs) (s : Ov) (src dst : TypeId) (x : SV) (K : SV → Ov → Prop) : Prop := match X.P.underlying src, X.P.underlying dst, x with
  | some (.int _), some (.int k), .v (.c (.k (.int k' n))) => if IntKind.beq k k' then K x s else (inK k (k.wrap n) → K (.k (.int k (k.wrap n))) s)
  | some .string, some .string, .v (.c (.k (.string _))) => K x s
  | some (.int _), some .string, .v (.c (.k (.int _ n))) => (Utf8.encode n).size ≤ 9223372036854775807 ∧ K (.str (Utf8.encode n)) s
  | some .string, some (.slice e), .v (.c (.k (.string z))) => match X.P.underlying e with
    | some (.int .u8) => K (.c (.d .u8 z.data.toList)) s
    | _ => False
  | some (.slice e), some .string, .v (.c y) => match X.P.underlying e with
    | some (.int .u8) => match listOf b s .u8 y with
      | some l => K (.str (bstr l)) s
      | none => False
    | _ => False
  | _, _, _ => False
def mmV (mn : Bool) (x y : SV) (K : SV → Prop) : Prop := match x, y with
  | .v (.c (.k (.int k m))), .v (.c (.k (.int k' n))) => if IntKind.beq k k' then K (.k (.int k (if mn then min m n else max m n))) else False
  | _, _ => False

/-! ### Maps -/
def kkOf (P : Program) (t : TypeId) : Option Kk := match P.underlying t with
  | some (.int .i64) => some .int
  | some .string => some .str
  | _ => none
/-- What a type's values are. -/
def dTy (X : Vx) (t : TypeId) : Option Ty := match X.P.underlying t with
  | some (.int k) => some (.int k)
  | some .string => some .str
  | some .bool => some .bool
  | _ => lookT X.ty t
def zOk (e : Ty) (z : Value) : Bool := match z with
  | .agg _ => e.row
  | v => !e.row && v.oneCell'
/-- The zero. -/
def dflV (P : Program) (t : TypeId) (e : Ty) : Option e.den := match P.info? t with
  | some i => match i.zero with
    | some z => if zOk e z then (match constCs z.cells.toList with
      | some zl => match e.of zl with
        | some (x, []) => some x
        | _ => none
      | none => none) else none
    | none => none
  | none => none
def keyOfCl : (k : Kk) → Cl → Option k.den
  | .int, c => match c with
    | .k (.int .i64 n) => some n
    | _ => none
  | .str, c => match c with
    | .k (.string z) => some z
    | _ => none
def s1Of (e : Ty) (x : e.den) : Option S1 := if e.row then some (.agg (e.cells x)) else match e.cells x with
  | [c] => some (.c c)
  | _ => none
def s1In (e : Ty) : S1 → Bool
  | .agg _ => e.row
  | .c _ => !e.row
def lookupV (X : Vx) (b : Bs) (s : Ov) (t : TypeId) (mx ky : Cl) (c : Bool) (K : SV → Prop) : Prop := match X.P.underlying t with
  | some (.map k et) => match mx with
    | .m l => match b.obj s l with
      | .map k' kk e xs => if Nat.beq k k' && kkOk X.P k kk then (match dflV X.P et e, keyOfCl kk ky with
        | some z, some q => match s1Of e ((kk.get xs q).getD z) with
          | some r => e.ok ((kk.get xs q).getD z) → K (if c then .tup [r, .c (.k (.bool (kk.get xs q).isSome))] else .v r)
          | none => False
        | _, _ => False) else False
      | _ => False
    | _ => False
  | _ => False
def mapPutV (X : Vx) (b : Bs) (s : Ov) (t : TypeId) (mx ky : Cl) (v : S1) (K : Ov → Prop) : Prop := match X.P.underlying t with
  | some (.map k _) => match mx with
    | .m l => holdCs b v.cells s fun cs s1 => match b.obj s1 l with
      | .map k' kk e xs => if Nat.beq k k' && kkOk X.P k kk && s1In e v then (match keyOfCl kk ky, e.of cs with
        | some q, some (x, []) => xs.length < 9223372036854775807 ∧ K (s1.setO l (.map k' kk e (kk.put xs q x)))
        | _, _ => False) else False
      | _ => False
    | _ => False
  | _ => False
def makeMapV (X : Vx) (s : Ov) (t : TypeId) (K : SV → Ov → Prop) : Prop := match X.P.underlying t with
  | some (.map k et) => match kkOf X.P k, dTy X et with
    | some kk, some e => K (.c (.m s.n)) (s.new (.map k kk e []))
    | _, _ => False
  | _ => False

/-! ### Interfaces -/
def zeroV (P : Program) (t : TypeId) : Option SV := match P.info? t with
  | some i => match i.zero with
    | some z => constV z
    | none => none
  | none => none
def ifaceV (P : Program) (t : TypeId) (c : Cl) (K : SV → Prop) : Prop := match P.underlying t with
  | some (.interface _) => False
  | some _ => K (.c (.ifc t c))
  | none => False
def assertV (P : Program) (t : TypeId) (c : Cl) (K : SV → Prop) : Prop := match P.underlying t with
  | some (.interface _) => False
  | some _ => match c with
    | .ifc t' c' => if Nat.beq t' t then K (.tup [.c c', .c (.k (.bool true))]) else (match zeroV P t with
      | some (.v z) => K (.tup [z, .c (.k (.bool false))])
      | _ => False)
    | .k .nilIface => match zeroV P t with
      | some (.v z) => K (.tup [z, .c (.k (.bool false))])
      | _ => False
    | _ => False
  | none => False

/-! ### A string's runes -/
def rangeV (X : Vx) (s : Ov) (t : TypeId) (c : Cl) (K : SV → Ov → Prop) : Prop := match X.P.underlying t, c with
  | some .string, .k (.string z) => K (.c (.p s.n 0)) (s.new (.ab (.iter z 0)))
  | _, _ => False
def nextV (b : Bs) (s : Ov) (c : Cl) (K : SV → Ov → Prop) : Prop := match c with
  | .p l 0 => match b.obj s l with
    | .ab (.iter z p) => br (decide (p < z.size)) (K (.tup [.c (.k (.bool true)), .c (.k (.int .i64 p)), .c (.k (.int .i32 (Utf8.decode z p).1))]) (s.setO l (.ab (.iter z (p + (Utf8.decode z p).2))))) (K (.tup [.c (.k (.bool false))]) s)
    | _ => False
  | _ => False
def isConst : Operand → Bool
  | .const _ => true
  | _ => false
def op1 (b : Bs) (s : Ov) (x : Operand) (k : SV → Prop) : Prop := match opd b s x with
  | some v => k v
  | none => False
def cl1 (b : Bs) (s : Ov) (x : Operand) (k : Cl → Prop) : Prop := match opd b s x with
  | some (.v (.c c)) => k c
  | _ => False
def opt1 (b : Bs) (s : Ov) (q : Option Operand) (k : Option SV → Prop) : Prop := match q with
  | none => k none
  | some y => op1 b s y fun v => k (some v)
def capsOf : List SV → Option (List Cl)
  | [] => some []
  | .v (.c c) :: r => match capsOf r with
    | some q => some (c :: q)
    | none => none
  | _ => none
/-- Strings over strings. -/
def copyCs : (off n j : Nat) → List Cl → List ByteArray → Option (List Cl)
  | 0, 0, _, cs, _ => some cs
  | 0, n + 1, j, c :: r, ys => match c with
    | .k (.string z) => match copyCs 0 n (j + 1) r ys with
      | some l => some (.k (.string ((ys[j]?).getD z)) :: l)
      | none => none
    | _ => none
  | off + 1, n, j, c :: r, ys => match copyCs off n j r ys with
    | some l => some (c :: l)
    | none => none
  | _, _, _, [], _ => none
def copyV (X : Vx) (b : Bs) (s : Ov) (t t2 : TypeId) (x y : Cl) (K : SV → Ov → Prop) : Prop := match X.P.underlying t, x with
  | some (.slice et), .sc l off n => if Nat.beq t t2 then (match X.P.info? et, listOf b s .str y, b.obj s l with
    | some ie, some ys, .cells u cs => if Nat.beq ie.size 1 then (match copyCs off n 0 cs ys with
      | some cs' => n ≤ 9223372036854775807 ∧ K (.int (min ys.length n : Nat)) (s.setO l (.cells u cs'))
      | none => False) else False
    | _, _, _ => False) else False
  | _, _ => False
def vBuiltin (X : Vx) (b : Bs) (s : Ov) (bi : Builtin) (args : List SV) (ts : List TypeId) (K : SV → Ov → Prop) : Prop := match bi with
  | .len => match args, ts with
    | [.v (.c x)], [t] => lenV X.P b s t x fun r => K r s
    | _, _ => False
  | .append => match args, ts with
    | [.v (.c x), .v (.c y)], [t, t2] => appendV X b s t t2 x y K
    | _, _ => False
  | .copy => match args, ts with
    | [.v (.c x), .v (.c y)], [t, t2] => copyV X b s t t2 x y K
    | _, _ => False
  | .min => match args, ts with
    | [x, y], [_, _] => mmV true x y fun r => K r s
    | _, _ => False
  | .max => match args, ts with
    | [x, y], [_, _] => mmV false x y fun r => K r s
    | _, _ => False
  | _ => False
def vCall (X : Vx) (b : Bs) (s : Ov) (c : Call) (K : SV → Ov → Prop) : Prop := match opds b s c.args.toList with
  | none => False
  | some args => match c.callee with
    | .value f => cl1 b s f fun q => match q with
      | .fn f caps => if funcOk X.P f then (if memN f X.hold then holdVs b (args ++ caps.map .c) s fun vs s => callV (lookC X.ct) b s f vs K else callV (lookC X.ct) b s f (args ++ caps.map .c) K) else False
      | _ => False
    | .builtin bi => vBuiltin X b s bi args c.argTypes.toList K
    | _ => False
/-- An operation. -/
def vOp (X : Vx) (b : Bs) (s : Ov) (o : Oper) (K : SV → Ov → Prop) : Prop := match o.op with
  | .move x | .assign x => op1 b s x fun v => K v s
  | .pick c x y => cl1 b s c fun c => op1 b s x fun v => op1 b s y fun u => match c with
    | .k (.bool q) => br q (K v s) (K u s)
    | _ => False
  | .binOp op t x y _ => op1 b s x fun v => op1 b s y fun u => binV X.wrap X.P b s (isConst x || isConst y) op t v u fun r => K r s
  | .unOp op _ x => op1 b s x fun v => unV X.wrap op v fun r => K r s
  | .extract x i => op1 b s x fun v => match v with
    | .tup l => match l[i]? with
      | some c => K (.v c) s
      | none => False
    | _ => False
  | .field t x j => op1 b s x fun v => match v with
    | .v (.agg l) => match fieldOf X.P t j with
      | some f => match part1 X.P f.type l f.offset with
        | some r => K (.v r) s
        | none => False
      | none => False
    | _ => False
  | .load t x => cl1 b s x fun c => loadV X.P b s t c fun r => K r s
  | .store t x y => cl1 b s x fun c => op1 b s y fun u => match u with
    | .v u => storeV X.P b s t c u fun s' => K .und s'
    | _ => False
  | .alloc t => match zeroCs X.P t with
    | some z => match bldOf X.bld t z with
      | some e => K (.c (.p s.n 0)) (s.new (.ab (.bld t e [])))
      | none => K (.c (.p s.n 0)) (s.new (.cells t z))
    | none => False
  | .box t x => op1 b s x fun v => match v with
    | .v v => K (.c (.p s.n 0)) (s.new (.cells t v.cells))
    | _ => False
  | .nilCheck x => cl1 b s x fun c => match c with
    | .p l off => K (.c (.p l off)) s
    | .de e y i off => K (.c (.de e y i off)) s
    | .oe l sz i off => K (.c (.oe l sz i off)) s
    | _ => False
  | .fieldAddr t x j => cl1 b s x fun c => match fieldOf X.P t j with
    | some f => match X.P.info? f.type with
      | some ie => if Nat.blt 0 ie.size then (match addrF c f.offset with
        | some c' => K (.c c') s
        | none => False) else False
      | none => False
    | none => False
  | .indexAddr t x i => cl1 b s x fun c => cl1 b s i fun q => match q with
    | .k (.int .i64 n) => indexAddrV X.P b s t c n fun r => K r s
    | _ => False
  | .index t x i => cl1 b s x fun c => cl1 b s i fun q => match X.P.underlying t, c, q with
    | some .string, .k (.string z), .k (.int _ n) => 0 ≤ n ∧ n < z.size ∧ K (.k (.int .u8 ((byteAt z n).toNat : Int))) s
    | _, _, _ => False
  | .slice t x lo hi none => cl1 b s x fun c => opt1 b s lo fun l => opt1 b s hi fun h => match intOf l, intOf h with
    | some l, some h => sliceK X.P b s t c l h fun r => K r s
    | _, _ => False
  | .build t ps => match partsV b s ps.toList with
    | some l => buildV X.P t l fun r => K r s
    | none => False
  | .buildSlice t n ps => match partsV b s ps.toList with
    | some l => buildSliceV X b s t n l K
    | none => False
  | .convert src dst x => op1 b s x fun v => convV X b s src dst v K
  | .makeFunc (.func f) first captured => if first.isEmpty then (match opds b s captured.toList with
    | some l => match capsOf l with
      | some cs => K (.c (.fn f cs)) s
      | none => False
    | none => False) else False
  | .makeInterface t x => cl1 b s x fun c => ifaceV X.P t c fun r => K r s
  | .typeAssert x _ t true => cl1 b s x fun c => assertV X.P t c fun r => K r s
  | .makeMap t none => makeMapV X s t K
  | .lookup t x y c => cl1 b s x fun mx => cl1 b s y fun ky => lookupV X b s t mx ky c fun r => K r s
  | .mapUpdate t x y z => cl1 b s x fun mx => cl1 b s y fun ky => op1 b s z fun u => match u with
    | .v v => mapPutV X b s t mx ky v fun s' => K .und s'
    | _ => False
  | .range t x => cl1 b s x fun c => rangeV X s t c K
  | .next x true => cl1 b s x fun c => nextV b s c K
  | .call c => vCall X b s c K
  | _ => False

/-! ### Code -/
inductive Ex
  | normal | exit (id : Nat) | ret
/-- What is to be carried out of a region. -/
def wantV (ops : Array Oper) (b : Bs) (s : Ov) (o : Oper) (K : Bool → Ov → Prop) : Prop := match o.guard with
  | none => K true s
  | some (j, w) => match (ops[j]?).bind (·.dst) with
    | none => False
    | some d => match b.slot s d with
      | some (.v (.c (.k (.bool v)))) => br v (K (true == w) (s.put (some d) (.bool true))) (K (false == w) (s.put (some d) (.bool false)))
      | some (.tup _) => K false s
      | _ => False
def vOp1 (X : Vx) (n : Nat) (ops : Array Oper) (b : Bs) (s : Ov) (o : Oper) (K : Ov → Prop) : Prop :=
  if (match o.dst with | some d => Nat.blt d n | none => true) then wantV ops b s o fun w s => match w with
    | true => vOp X b s o fun v s' => K (s'.put o.dst v)
    | false => K (s.put o.dst .und)
  else False
def vOps (X : Vx) (n : Nat) (ops : Array Oper) (b : Bs) : List Oper → Ov → (Ov → Prop) → Prop
  | [], s, K => K s
  | o :: r, s, K => vOp1 X n ops b s o fun s' => vOps X n ops b r s' K
/-! A region whose order is open: what reads alone may come early. -/
def plainT (P : Program) (t : TypeId) : Bool := match P.underlying t with
  | some (.int _) | some .string | some .bool | some (.struct _) | some (.array _ _) => true
  | _ => false
def pureOp (P : Program) (o : Oper) : Bool := o.dst.isSome && (match o.op with
  | .move _ | .assign _ | .pick .. | .unOp .. | .extract .. | .field .. | .load .. | .nilCheck _ | .fieldAddr .. | .indexAddr .. | .index .. | .build .. => true
  | .slice _ _ _ _ none => true
  | .binOp _ t _ _ _ => plainT P t
  | .convert _ dst _ => (match P.underlying dst with
    | some .string | some (.int _) => true
    | _ => false)
  | .call c => (match c.callee with
    | .builtin .len => true
    | _ => false)
  | _ => false)
/-- The list's spine laid bare (the kernel reckons by name). -/
def forceL {α : Type} : List α → (List α → Prop) → Prop
  | [], k => k []
  | a :: l, k => forceL l fun l' => k (a :: l')
def forceB : List Bool → (List Bool → Prop) → Prop
  | [], k => k []
  | a :: l, k => forceB l fun l' => match a with
    | true => k (true :: l')
    | false => k (false :: l')
def nthB : List Bool → Nat → Bool
  | [], _ => false
  | a :: _, 0 => a
  | _ :: r, i + 1 => nthB r i
def nthR : List (List Bool) → Nat → List Bool
  | [], _ => []
  | a :: _, 0 => a
  | _ :: r, i + 1 => nthR r i
def setB : Nat → List Bool → List Bool
  | 0, [] => [true]
  | 0, _ :: r => true :: r
  | k + 1, [] => false :: setB k []
  | k + 1, a :: r => a :: setB k r
def orB : List Bool → List Bool → List Bool
  | [], l => l
  | a :: r, [] => a :: r
  | a :: r, b :: q => (a || b) :: orB r q
/-- Who waits for whom. -/
def rowE (acc : List (List Bool)) : List Edge → List Bool
  | [] => []
  | e :: r => match Region.binds .any e with
    | true => orB (setB e.on (nthR acc e.on)) (rowE acc r)
    | false => rowE acc r
def rowsK : List Oper → List (List Bool) → (List (List Bool) → Prop) → Prop
  | [], acc, k => k acc
  | o :: r, acc, k => forceB (rowE acc o.after.toList) fun row => forceL (acc ++ [row]) fun acc => rowsK r acc k
/-- For how many of those that keep their order does it wait? -/
def countNP : List Bool → List Bool → Nat
  | p :: ps, r :: rs => match r && !p with
    | true => countNP ps rs + 1
    | false => countNP ps rs
  | _, _ => 0
def atPhase (pu : List Bool) (ms : List (List Bool)) (size J : Nat) : List Nat := (List.range size).filter fun i => nthB pu i && Nat.beq (countNP pu (nthR ms i)) J
def ordGo (pu : List Bool) (ms : List (List Bool)) (size : Nat) : Nat → List Nat → List Nat
  | J, [] => atPhase pu ms size J
  | J, n :: r => atPhase pu ms size J ++ n :: ordGo pu ms size (J + 1) r
def ordOf (pu : List Bool) (ms : List (List Bool)) (size : Nat) : List Nat := ordGo pu ms size 0 ((List.range size).filter fun i => !nthB pu i)
def dstAt (ops : Array Oper) (k : Nat) : Option Nat := (ops[k]?).bind (·.dst)
def aheadOk (pu : List Bool) (ms : List (List Bool)) : List Nat → List Nat → Bool
  | _, [] => true
  | dn, i :: r => dn.all (fun j => nthB pu j || nthB (nthR ms i) j) && aheadOk pu ms (i :: dn) r
def isDst (ops : Array Oper) (k t : Nat) : Bool := match dstAt ops k with
  | some d => Nat.beq d t
  | none => false
/-- Does it write over what one ahead of it reads? Such a one keeps its order. -/
def overAt (ops : Array Oper) (k : Nat) : Bool := match dstAt ops k with
  | some d => (List.range k).any fun i => match ops[i]? with
    | some o => memN d (slotsOf ops o)
    | none => false
  | none => false
def pureAt (P : Program) (ops : Array Oper) (k : Nat) : Bool := match ops[k]? with
  | some o => pureOp P o && !overAt ops k
  | none => false
def slotsOkB (ops : Array Oper) (pu : List Bool) (ms : List (List Bool)) : Bool := (List.range ops.size).all fun i => match ops[i]? with
  | none => true
  | some o => (slotsOf ops o).all fun t => (List.range ops.size).all fun k => !isDst ops k t || (nthB (nthR ms i) k || !nthB pu k)
def laterOk (ops : Array Oper) (pu : List Bool) (ms : List (List Bool)) : List Nat → Bool
  | [] => true
  | i :: r => (!nthB pu i || match ops[i]? with
    | none => true
    | some o => (slotsOf ops o).all fun t => !isDst ops i t && r.all fun k => !isDst ops k t || (!nthB pu k && nthB (nthR ms k) i)) && laterOk ops pu ms r
def ordOk (ops : Array Oper) (pu : List Bool) (ms : List (List Bool)) (ord : List Nat) : Bool :=
  nodupN ord && ord.all (fun i => Nat.blt i ops.size) && (List.range ops.size).all (fun i => memN i ord) && aheadOk pu ms [] ord && slotsOkB ops pu ms && laterOk ops pu ms ord
/-- Which objects an operation may read. -/
def rdOf (b : Bs) (s : Ov) (o : Oper) : List Nat := o.op.operands.toList.flatMap fun x => match opd b s x with
  | some v => v.labels
  | none => []
/-- What keeps its order, over a frame and a heap of which nothing has turned. -/
def vNon (X : Vx) (n : Nat) (ops : Array Oper) (b : Bs) (s : Ov) (o : Oper) (K : Ov → List Nat → Prop) : Prop :=
  if (match o.dst with | some d => Nat.blt d n | none => true) then wantV ops b s o fun w s => match w with
    | true => vOp X { f := s.f ++ b.f, h := b.heap s } { f := [], h := [], n := s.n } o fun v s' => match s'.f with
      | [] => K (({ f := s.f, h := s'.h ++ s.h, n := s'.n } : Ov).put o.dst v) (s'.h.map (·.1))
      | _ => False
    | false => K (s.put o.dst .und) []
  else False
/-- One after the other; lv: what has come early, and what it read: that stands until it must have been done. -/
def vDraw (X : Vx) (n : Nat) (ops : Array Oper) (b : Bs) (ms : List (List Bool)) (pu : List Bool) : List Nat → List (Nat × List Nat) → Ov → (Ov → Prop) → Prop
  | [], _, s, K => K s
  | i :: r, lv, s, K => match ops[i]? with
    | none => False
    | some o => match nthB pu i with
      | true => vOp1 X n ops b s o fun s' => vDraw X n ops b ms pu r ((i, rdOf b s o) :: lv) s' K
      | false => vNon X n ops b s o fun s' ks => forceL (lv.filter fun p => !nthB (nthR ms i) p.1) fun lv => if lv.all (fun p => p.2.all fun l => !memN l ks) then vDraw X n ops b ms pu r lv s' K else False
/-! Some that keep their order do not wait for each other: each order of theirs. -/
def npOk (ms : List (List Bool)) (np dn : List Nat) (i : Nat) : Bool := np.all fun j => !nthB (nthR ms i) j || memN j dn
def altsGo (pu : List Bool) (ms : List (List Bool)) (np : List Nat) (size : Nat) : Nat → List Nat → List (List Nat)
  | 0, _ => [[]]
  | f + 1, dn =>
    let ps := (List.range size).filter fun i => nthB pu i && (!memN i dn && npOk ms np dn i)
    match np.filter fun i => !memN i dn && npOk ms np dn i with
    | [] => [ps]
    | ns => ns.flatMap fun i => (altsGo pu ms np size f (dn ++ ps ++ [i])).map fun r => ps ++ i :: r
def firstNP (pu : List Bool) : List Nat → Nat → Bool
  | [], _ => false
  | x :: r, i => Nat.beq x i || (nthB pu x && firstNP pu r i)
def stripN : List Nat → List Nat → Option (List Nat)
  | [], r => some r
  | _ :: _, [] => none
  | a :: l, b :: r => bif Nat.beq a b then stripN l r else none
def closeGo (pu : List Bool) (ms : List (List Bool)) (np : List Nat) (os : List (List Nat)) : List Nat → List Nat → Bool
  | _, [] => true
  | dn, x :: r => ((x :: r).all fun i => firstNP pu (x :: r) i || (!npOk ms np dn i || os.any fun o => match stripN dn o with
      | some q => firstNP pu q i
      | none => false)) && closeGo pu ms np os (dn ++ [x]) r
def altsOk (ops : Array Oper) (pu : List Bool) (ms : List (List Bool)) (np : List Nat) (os : List (List Nat)) : Bool :=
  slotsOkB ops pu ms && (!os.isEmpty && os.all fun ord => nodupN ord && (ord.all (fun i => Nat.blt i ops.size) && ((List.range ops.size).all (fun i => memN i ord) && (laterOk ops pu ms ord && closeGo pu ms np os [] ord))))
def headsN : List (List Nat) → List Nat
  | [] => []
  | [] :: r => headsN r
  | (x :: _) :: r => match memN x (headsN r) with
    | true => headsN r
    | false => x :: headsN r
def tailsN (i : Nat) : List (List Nat) → List (List Nat)
  | [] => []
  | [] :: r => tailsN i r
  | (x :: q) :: r => match Nat.beq x i with
    | true => q :: tailsN i r
    | false => tailsN i r
def allN : List Nat → (Nat → Prop) → Prop
  | [], _ => True
  | [x], p => p x
  | x :: y :: r, p => p x ∧ allN (y :: r) p
def forceLL : List (List Nat) → (List (List Nat) → Prop) → Prop
  | [], k => k []
  | a :: l, k => forceL a fun a' => forceLL l fun l' => k (a' :: l')
def vTree (X : Vx) (n : Nat) (ops : Array Oper) (b : Bs) (ms : List (List Bool)) (pu : List Bool) : Nat → List (List Nat) → List (Nat × List Nat) → Ov → (Ov → Prop) → Prop
  | 0, _, _, s, K => K s
  | f + 1, os, lv, s, K => forceL (headsN os) fun hs => allN hs fun i => match ops[i]? with
    | none => False
    | some o => match nthB pu i with
      | true => vOp1 X n ops b s o fun s' => forceLL (tailsN i os) fun os => vTree X n ops b ms pu f os ((i, rdOf b s o) :: lv) s' K
      | false => vNon X n ops b s o fun s' ks => forceL (lv.filter fun p => !nthB (nthR ms i) p.1) fun lv => if lv.all (fun p => p.2.all fun l => !memN l ks) then forceLL (tailsN i os) fun os => vTree X n ops b ms pu f os lv s' K else False
def vRegion (X : Vx) (n : Nat) (ops : Array Oper) (draw : Bool) (b : Bs) (s : Ov) (K : Ov → Prop) : Prop :=
  if draw then
    if X.P.follows .mixedOrders && edgesOk ops && dstsOk ops n then
      forceB ((List.range ops.size).map (pureAt X.P ops)) fun pu => rowsK ops.toList [] fun ms => forceL (ordOf pu ms ops.size) fun ord =>
        if ordOk ops pu ms ord then vDraw X n ops b ms pu ord [] s K
        else forceL ((List.range ops.size).filter fun i => !nthB pu i) fun np => forceLL (altsGo pu ms np ops.size ops.size []) fun os =>
          if altsOk ops pu ms np os then vTree X n ops b ms pu ops.size os [] s K else False
    else False
  else vOps X n ops b ops.toList s K

/-! ### Loops: what a round's head has -/
inductive Sh
  | int (k : IntKind) | bool | str
  | d (e : Ty)
  | own (t : TypeId) (e : Ty)
  | p (l off : Nat)
  | m (l : Nat)
@[reducible] def Sh.den : Sh → Type
  | .int _ => Int
  | .bool => Bool
  | .str => ByteArray
  | .d e => List e.den
  | .own _ e => List e.den
  | .p .. | .m _ => Unit
/-- A slice of one's own takes a label of its own: how many. -/
def Sh.mk : (h : Sh) → h.den → Nat → Cl × List HO
  | .int k, n, _ => (.k (.int k n), [])
  | .bool, v, _ => (.k (.bool v), [])
  | .str, z, _ => (.k (.string z), [])
  | .d e, x, _ => (.d e x, [])
  | .own t e, x, n => (.o n, [.sl t e x])
  | .p l off, _, _ => (.p l off, [])
  | .m l, _, _ => (.m l, [])
/-- Which datum a cell is; which slices of one's own are taken. -/
def Sh.rd (b : Bs) (s : Ov) : (h : Sh) → Cl → Option (h.den × List Nat)
  | .int k, c => match c with
    | .k (.int k' n) => if IntKind.beq k' k then some (n, []) else none
    | _ => none
  | .bool, c => match c with
    | .k (.bool v) => some (v, [])
    | _ => none
  | .str, c => match c with
    | .k (.string z) => some (z, [])
    | _ => none
  | .d e, c => match c with
    | .d _ x => match asD e x with
      | some y => some (y, [])
      | none => none
    | .k (.slice none 0 0) => some ([], [])
    | .o l => match b.obj s l with
      | .held _ _ x => match asD e x with
        | some y => some (y, [])
        | none => none
      | _ => none
    | _ => none
  | .own t e, c => match c with
    | .k (.slice none 0 0) => some ([], [])
    | .o l => match b.obj s l with
      | .sl t' _ x => if Nat.beq t' t then (match asD e x with
        | some y => some (y, [l])
        | none => none) else none
      | _ => none
    | _ => none
  | .p l off, c => match c with
    | .p l' off' => if Nat.beq l' l && Nat.beq off' off && Nat.blt l b.h.length then some ((), []) else none
    | _ => none
  | .m l, c => match c with
    | .m l' => if Nat.beq l' l && Nat.blt l b.h.length then some ((), []) else none
    | _ => none
inductive AbT
  | iter
  | bld (t e : TypeId)
@[reducible] def AbT.den : AbT → Type
  | .iter => ByteArray × Nat
  | .bld _ _ => List UInt8
def AbT.mk : (t : AbT) → t.den → AbK
  | .iter, x => .iter x.1 x.2
  | .bld t e, x => .bld t e x
def AbT.rd : (t : AbT) → AbK → Option t.den
  | .iter, k => match k with
    | .iter z p => some (z, p)
    | _ => none
  | .bld t e, k => match k with
    | .bld t' e' x => if Nat.beq t' t && Nat.beq e' e then some x else none
    | _ => none
theorem AbT.rd_ok : ∀ {t : AbT} {k : AbK} {x : t.den}, t.rd k = some x → k = t.mk x
  | .iter, .iter z p, x, h => by
    obtain rfl : (z, p) = x := Option.some.inj h
    rfl
  | .iter, .bld _ _ _, _, h => by cases h
  | .bld _ _, .iter _ _, _, h => by cases h
  | .bld t e, .bld t' e' y, x, h => by
    have h : (if Nat.beq t' t && Nat.beq e' e then some y else none) = some x := h
    split at h
    · rename_i hc
      simp only [Bool.and_eq_true] at hc
      obtain rfl := Option.some.inj h
      rw [Nat.eq_of_beq_eq_true hc.1, Nat.eq_of_beq_eq_true hc.2]; rfl
    · cases h
/-- An object's shape. -/
inductive OSh
  | cells (t : TypeId) (cs : List Sh)
  | sl (t : TypeId) (e : Ty)
  | map (t : TypeId) (k : Kk) (e : Ty)
  | ab (t : AbT)
@[reducible] def Shs.den : List Sh → Type
  | [] => Unit
  | h :: r => h.den × Shs.den r
def Shs.mk : (l : List Sh) → Shs.den l → Nat → List Cl × List HO
  | [], _, _ => ([], [])
  | h :: r, x, n => ((h.mk x.1 n).1 :: (Shs.mk r x.2 (n + (h.mk x.1 n).2.length)).1, (h.mk x.1 n).2 ++ (Shs.mk r x.2 (n + (h.mk x.1 n).2.length)).2)
def Shs.rd (b : Bs) (s : Ov) : (l : List Sh) → List Cl → Option (Shs.den l × List Nat)
  | [], [] => some ((), [])
  | h :: r, c :: cs => match h.rd b s c with
    | some (x, u) => match Shs.rd b s r cs with
      | some (y, v) => some ((x, y), u ++ v)
      | none => none
    | none => none
  | _, _ => none
@[reducible] def OSh.den : OSh → Type
  | .cells _ cs => Shs.den cs
  | .sl _ e => List e.den
  | .map _ k e => List (k.den × e.den)
  | .ab t => t.den
def OSh.mk : (h : OSh) → h.den → Nat → HO × List HO
  | .cells t cs, x, n => (.cells t (Shs.mk cs x n).1, (Shs.mk cs x n).2)
  | .sl t e, x, _ => (.sl t e x, [])
  | .map t k e, x, _ => (.map t k e x, [])
  | .ab t, x, _ => (.ab (t.mk x), [])
def OSh.rd (b : Bs) (s : Ov) : (h : OSh) → HO → Option (h.den × List Nat)
  | .cells t cs, o => match o with
    | .cells t' c => if Nat.beq t' t then Shs.rd b s cs c else none
    | _ => none
  | .sl t e, o => match o with
    | .sl t' _ x => if Nat.beq t' t then (match asD e x with
      | some y => some (y, [])
      | none => none) else none
    | _ => none
  | .map t k e, o => match o with
    | .map t' _ _ x => if Nat.beq t' t then (match asM k e x with
      | some y => some (y, [])
      | none => none) else none
    | _ => none
  | .ab t, o => match o with
    | .ab k => match t.rd k with
      | some x => some (x, [])
      | none => none
    | _ => none
/-- A loop's head: the slots and the objects that its rounds turn. -/
structure LAnn where
  slots : List (Nat × Sh)
  objs : List (Nat × OSh)
@[reducible] def slotsDen : List (Nat × Sh) → Type
  | [] => Unit
  | p :: r => p.2.den × slotsDen r
@[reducible] def objsDen : List (Nat × OSh) → Type
  | [] => Unit
  | p :: r => p.2.den × objsDen r
@[reducible] def LAnn.den (a : LAnn) : Type := slotsDen a.slots × objsDen a.objs
def slotsMk : (l : List (Nat × Sh)) → slotsDen l → Nat → Slots × List HO
  | [], _, _ => ([], [])
  | p :: r, x, n => ((p.1, .c (p.2.mk x.1 n).1) :: (slotsMk r x.2 (n + (p.2.mk x.1 n).2.length)).1, (p.2.mk x.1 n).2 ++ (slotsMk r x.2 (n + (p.2.mk x.1 n).2.length)).2)
def objsMk : (l : List (Nat × OSh)) → objsDen l → Nat → List (Nat × HO) × List HO
  | [], _, _ => ([], [])
  | p :: r, x, n => ((p.1, (p.2.mk x.1 n).1) :: (objsMk r x.2 (n + (p.2.mk x.1 n).2.length)).1, (p.2.mk x.1 n).2 ++ (objsMk r x.2 (n + (p.2.mk x.1 n).2.length)).2)
def slotsRd (b : Bs) (s : Ov) : (l : List (Nat × Sh)) → Option (slotsDen l × List Nat)
  | [] => some ((), [])
  | p :: r => match b.slot s p.1 with
    | some (.v (.c c)) => match p.2.rd b s c with
      | some (x, u) => match slotsRd b s r with
        | some (y, v) => some ((x, y), u ++ v)
        | none => none
      | none => none
    | _ => none
def objsRd (b : Bs) (s : Ov) : (l : List (Nat × OSh)) → Option (objsDen l × List Nat)
  | [] => some ((), [])
  | p :: r => match p.2.rd b s (b.obj s p.1) with
    | some (x, u) => match objsRd b s r with
      | some (y, v) => some ((x, y), u ++ v)
      | none => none
    | none => none
/-- A loop: some invariant, and what falls. -/
inductive LoopP {ι : Type} (B : ι → (ι → Prop) → Prop) (i : ι) : Prop
  | intro (I : ι → Prop) (μ : ι → Nat) (h0 : I i) (h : ∀ j, I j → B j fun j' => I j' ∧ μ j' < μ j)
/-- Where ways meet again: what holds there. -/
inductive JoinP {ι : Type} (A : (ι → Prop) → Prop) (B : ι → Prop) : Prop
  | intro (J : ι → Prop) (hA : A J) (hB : ∀ i, J i → B i)
def writesC : Code → List Nat
  | .region _ ops _ => ops.toList.filterMap (·.dst)
  | .seq a b => writesC a ++ writesC b
  | .cond _ a b => writesC a ++ writesC b
  | .block _ c | .loop c | .scope c => writesC c
  | _ => []
/-- The first region's number, and one. -/
def firstR : Code → Nat
  | .region id _ _ => id + 1
  | .seq a b => let k := firstR a; bif Nat.beq k 0 then firstR b else k
  | .cond _ a b => let k := firstR a; bif Nat.beq k 0 then firstR b else k
  | .block _ c | .loop c | .scope c => firstR c
  | _ => 0
structure FAnn where
  loops : List (Nat × LAnn)
  joins : List (Nat × LAnn)
def lookA : List (Nat × LAnn) → Nat → Option LAnn
  | [], _ => none
  | (k, v) :: s, t => bif Nat.beq k t then some v else lookA s t
def zipN : Nat → List HO → List (Nat × HO)
  | _, [] => []
  | n, o :: r => (n, o) :: zipN (n + 1) r
/-- A section: what it may turn is told anew (ks: slots). -/
def sectB (ks : List Nat) (b : Bs) (s : Ov) : Bs := { f := (s.f ++ b.f).filter fun p => !memN p.1 ks, h := b.heap s }
def sectS (ks : List Nat) (b : Bs) (s : Ov) : Ov := { f := (s.f ++ b.f).filter fun p => memN p.1 ks, h := [], n := s.n }
def sectOut (ks : List Nat) (s s' : Ov) : Ov := { f := s'.f ++ (ks.map (fun k => (k, SV.any)) ++ s.f), h := s'.h ++ s.h, n := s'.n }
/-- Slices of one's own that the shape's slots and cells have. -/
def ownsSh (b : Bs) (s : Ov) : Sh → Cl → List Nat
  | .own _ _, .o l => match b.obj s l with
    | .sl .. => [l]
    | _ => []
  | _, _ => []
def ownsShs (b : Bs) (s : Ov) : List Sh → List Cl → List Nat
  | h :: r, c :: cs => ownsSh b s h c ++ ownsShs b s r cs
  | _, _ => []
def ownsIn (a : LAnn) (b : Bs) (s : Ov) : List Nat :=
  (a.slots.flatMap fun p => match b.slot s p.1 with
    | some (.v (.c c)) => ownsSh b s p.2 c
    | _ => []) ++ a.objs.flatMap fun p => match p.2, b.obj s p.1 with
    | .cells _ l, .cells _ cs => ownsShs b s l cs
    | _, _ => []
def newsOf (a : LAnn) (n0 : Nat) (i : a.den) : List HO := (slotsMk a.slots i.1 n0).2 ++ (objsMk a.objs i.2 (n0 + (slotsMk a.slots i.1 n0).2.length)).2
/-- The state at a head. -/
def headS (a : LAnn) (us : List Nat) (n0 : Nat) (i : a.den) : Ov :=
  { f := (slotsMk a.slots i.1 n0).1, h := zipN n0 (newsOf a n0 i) ++ ((objsMk a.objs i.2 (n0 + (slotsMk a.slots i.1 n0).2.length)).1 ++ us.map fun l => (l, HO.gone)), n := n0 + (newsOf a n0 i).length }
def midOk (a : LAnn) (ks : List Nat) (n0 : Nat) (us0 : List Nat) (s' : Ov) (us : List Nat) : Bool :=
  nodupN (us ++ a.objs.map (·.1)) && us.all (fun l => Nat.ble n0 l || memN l us0) && (a.objs.map (·.1)).all (fun l => Nat.blt l n0 && !memN l us0) && s'.f.all (fun p => memN p.1 ks) && s'.h.all (fun p => Nat.ble n0 p.1 || memN p.1 (a.objs.map (·.1)) || memN p.1 us0)
def midV (a : LAnn) (ks : List Nat) (n0 : Nat) (us0 : List Nat) (b : Bs) (s' : Ov) (k : a.den → Prop) : Prop := match slotsRd b s' a.slots, objsRd b s' a.objs with
  | some (x, u), some (y, v) => if midOk a ks n0 us0 s' (u ++ v) then k (x, y) else False
  | _, _ => False
def Ov.force (s : Ov) (K : Ov → Prop) : Prop := forceL s.f fun f => forceL s.h fun h => K { f := f, h := h, n := s.n }
def Bs.force (b : Bs) (K : Bs → Prop) : Prop := forceL b.f fun f => forceL b.h fun h => K { f := f, h := h }
/-- A condition that is decided. -/
def Ov.told (s : Ov) (c : Operand) (v : Bool) : Ov := match c with
  | .tmp t => s.put (some t) (.bool v)
  | _ => s
/-- Round by round. -/
def unrV (body : Ov → (Ex → Ov → Prop) → Prop) (Q : Ex → Ov → Prop) : Nat → Ov → Prop
  | 0, _ => False
  | k + 1, s => s.force fun s => body s fun e s' => match e with
    | .normal => unrV body Q k s'
    | e => Q e s'
def vCode (X : Vx) (n : Nat) (an : FAnn) : Code → Bs → Ov → (Ex → Ov → Prop) → Prop
  | .skip, _, s, Q => Q .normal s
  | .region _ ops draw, b, s, Q => s.force fun s => vRegion X n ops draw b s fun s' => Q .normal s'
  | .seq x y, b, s, Q => match lookA an.joins (firstR y) with
    | none => vCode X n an x b s fun e s' => match e with
      | .normal => vCode X n an y b s' Q
      | e => Q e s'
    | some a =>
      s.force fun s => forceL (writesC x ++ a.slots.map (·.1)) fun ks => (sectB ks b s).force fun b1 =>
      let us0 := ownsIn a b s
      JoinP (ι := a.den) (fun k => vCode X n an x b1 (sectS ks b s) fun e s' => match e with
          | .normal => midV a ks s.n us0 b1 s' k
          | e => Q e (sectOut ks s s'))
        (fun i => vCode X n an y b1 (headS a us0 s.n i) fun e s' => Q e (sectOut ks s s'))
  | .cond c x y, b, s, Q => match opd b s c with
    | some (.v (.c (.k (.bool v)))) => br v (vCode X n an x b (s.told c true) Q) (vCode X n an y b (s.told c false) Q)
    | _ => False
  | .block id c, b, s, Q => vCode X n an c b s fun e s' => match e with
    | .exit j => if Nat.beq j id then Q .normal s' else Q (.exit j) s'
    | e => Q e s'
  | .loop c, b, s, Q => match lookN X.unr (firstR c), lookA an.loops (firstR c) with
    | some k, _ => unrV (fun s q => vCode X n an c b s q) Q k s
    | none, none => False
    | none, some a =>
      s.force fun s => forceL (writesC c ++ a.slots.map (·.1)) fun ks => (sectB ks b s).force fun b1 =>
      let us0 := ownsIn a b s
      midV a ks s.n us0 b1 (sectS ks b s) fun i0 =>
        LoopP (ι := a.den) (fun i again => vCode X n an c b1 (headS a us0 s.n i) fun e s' => match e with
          | .normal => midV a ks s.n us0 b1 s' again
          | e => Q e (sectOut ks s s')) i0
  | .exit id, _, s, Q => Q (.exit id) s
  | .ret, _, s, Q => Q .ret s
  | _, _, _, _ => False

/-! ### Functions -/
def resultsV (P : Program) (b : Bs) (s : Ov) : List ResultVar → Option (List S1)
  | [] => some []
  | .tmp t :: r => match b.slot s t with
    | some (.v v) => match resultsV P b s r with
      | some l => some (v :: l)
      | none => none
    | _ => none
  | .cell t ty :: r => match b.slot s t with
    | some (.v (.c (.p l off))) => match b.obj s l with
      | .cells _ cs => match part1 P ty cs off with
        | some v => match resultsV P b s r with
          | some q => some (v :: q)
          | none => none
        | none => none
      | _ => none
    | _ => none
def pack : List S1 → SV
  | [v] => .v v
  | l => .tup l
/-- What can be come to of the caller's objects and the result. -/
def vEnd (P : Program) (fn : Func) (n0 : Nat) (b : Bs) (s : Ov) (Q : SV → List HO → Prop) : Prop := match resultsV P b s fn.results.toList with
  | none => False
  | some l =>
    forceL (List.range n0 ++ (reachL (b.obj s) 1000 ((pack l).labels ++ (List.range n0).flatMap fun i => (b.obj s i).labels) []).filter fun l => Nat.ble n0 l) fun ls =>
    if nodupN ls && ls.all (fun l => Nat.blt l s.n) then Q ((pack l).ren (idxN ls)) (ls.map fun l => (b.obj s l).ren (idxN ls)) else False
def startF : Nat → List SV → Slots
  | _, [] => []
  | k, v :: r => (k, v) :: startF (k + 1) r
def vFun (X : Vx) (an : FAnn) (fn : Func) (args : List SV) (H : List HO) (Q : SV → List HO → Prop) : Prop := match fn.body with
  | none => False
  | some c => if Nat.ble args.length fn.ntmps then
      factVs args (vCode X fn.ntmps an c { f := startF 0 args, h := H } { f := [], h := [], n := H.length } fun e s => match e with
        | .normal | .ret => vEnd X.P fn H.length { f := startF 0 args, h := H } s Q
        | .exit _ => False)
    else False
end Go.Lm

/- What is reckoned holds: the state, operands, what reads and writes nothing. General: no program in sight. -/
namespace Go.Lm
open Go Go.RowKit

theorem if_ok {c : Bool} {p : Prop} (h : if c = true then p else False) : c = true ∧ p := by
  cases c
  · exact h.elim
  · exact ⟨rfl, h⟩
/-! ### Heaps -/
section
variable {b : Bs} {s : Ov}
theorem heap_len : (b.heap s).length = s.n := by simp [Bs.heap]
theorem heap_get {l : Nat} (h : l < s.n) : (b.heap s)[l]? = some (b.obj s l) := by
  simp [Bs.heap, List.getElem?_map, List.getElem?_range h]
theorem obj_setO {l k : Nat} {o : HO} : b.obj (s.setO l o) k = if l = k then o else b.obj s k := by
  unfold Bs.obj Ov.setO
  simp only [lookO]
  by_cases e : l = k
  · subst e; simp
  · rw [beq_ne e, if_neg e]; rfl
theorem heap_setO {l : Nat} {o : HO} (h : l < s.n) : b.heap (s.setO l o) = (b.heap s).set l o := by
  apply List.ext_getElem?
  intro k
  rw [List.getElem?_set]
  by_cases hk : k < s.n
  · rw [heap_get (s := s.setO l o) hk, obj_setO]
    by_cases e : l = k
    · subst e; simp [heap_len, h]
    · rw [if_neg e, if_neg e, heap_get hk]
  · have h1 : (b.heap (s.setO l o))[k]? = none := List.getElem?_eq_none (by rw [heap_len]; show s.n ≤ k; omega)
    have h2 : (b.heap s)[k]? = none := List.getElem?_eq_none (by rw [heap_len]; omega)
    rw [h1, h2]
    have hne : l ≠ k := by omega
    rw [if_neg hne]
theorem obj_new {k : Nat} {o : HO} : b.obj (s.new o) k = if s.n = k then o else b.obj s k := by
  unfold Bs.obj Ov.new
  simp only [lookO]
  by_cases e : s.n = k
  · rw [if_pos e]; subst e; simp
  · rw [beq_ne e, if_neg e]; rfl
theorem heap_new {o : HO} : b.heap (s.new o) = b.heap s ++ [o] := by
  apply List.ext_getElem?
  intro k
  by_cases hk : k < s.n
  · rw [List.getElem?_append_left (by rw [heap_len]; exact hk), heap_get hk, heap_get (s := s.new o) (by show k < s.n + 1; omega), obj_new, if_neg (by omega)]
  · rw [List.getElem?_append_right (by rw [heap_len]; omega), heap_len]
    by_cases e : s.n = k
    · subst e
      rw [heap_get (s := s.new o) (by show s.n < s.n + 1; omega), obj_new, if_pos rfl]; simp
    · rw [List.getElem?_eq_none (by rw [heap_len]; show s.n + 1 ≤ k; omega), List.getElem?_eq_none (by simp; omega)]
end

/-! ### The state -/
structure Sta (n : Nat) (W : Base) (F : List Atom) (b : Bs) (E : Env) (g w : World) (s : Ov) (a : Act) : Prop where
  size : a.tmps.size = n
  defers : a.defers = []
  fr : ∀ t v, b.slot s t = some v → RelV E g v (a.tmps.getD t undef)
  sat : Sat W E g w (b.heap s) F
  top : ∀ l, s.n ≤ l → b.obj s l = .gone
section
variable {P : Program} {n : Nat} {W : Base} {F : List Atom} {b : Bs} {E E' : Env} {g g' w w' : World} {s s' : Ov} {a : Act}
theorem Sta.len (S : Sta n W F b E g w s a) : E.length = s.n := by rw [S.sat.len, heap_len]
theorem Sta.lt (S : Sta n W F b E g w s a) {l : Nat} {v : Value} (h : E[l]? = some v) : l < s.n := by
  have := (List.getElem?_eq_some_iff.1 h).1
  rw [S.len] at this; exact this
theorem Sta.m (S : Sta n W F b E g w s a) : Mono g w := S.sat.m
theorem Sta.le (S : Sta n W F b E g w s a) (l : Le w w') : Sta n W F b E g w' s a := ⟨S.size, S.defers, S.fr, S.sat.le l, S.top⟩
/-- An object in hand. -/
theorem Sta.pick (S : Sta n W F b E g w s a) {l : Nat} {v : Value} (h : E[l]? = some v) : SL W g w (atomO E l (b.obj s l) :: dropA (atomsO E 0 (b.heap s) ++ F) l) := S.sat.pick (heap_get (S.lt h))
/-- .. laid back. -/
theorem Sta.back (S : Sta n W F b E g w s a) {l : Nat} {v : Value} (h : E[l]? = some v) (o' : HO) (m : Mono g g') (H : SL W g' w' (atomO E l o' :: dropA (atomsO E 0 (b.heap s) ++ F) l)) : Sta n W F b E g' w' (s.setO l o') a := by
  have hl := S.lt h
  refine ⟨S.size, S.defers, fun t v hv => (S.fr t v hv).mono (EnvLe.refl E) m, ?_, fun k hk => ?_⟩
  · rw [heap_setO hl]
    exact Sat.back (o := b.obj s l) o' S.sat.len (heap_get hl) H
  · rw [obj_setO, if_neg (by have : s.n ≤ k := hk; omega)]
    exact S.top k hk
/-- .. read alone. -/
theorem Sta.has (S : Sta n W F b E g w s a) {l : Nat} {v : Value} (h : E[l]? = some v) {p : Prop} (k : SL W g w (atomO E l (b.obj s l) :: dropA (atomsO E 0 (b.heap s) ++ F) l) → p) : p := k (S.pick h)
/-- A new object. -/
theorem Sta.new (S : Sta n W F b E g w s a) {o : HO} {v : Value} (m : Mono g g') (H : SL W g' w' (atomO (E ++ [v]) s.n o :: (atomsO E 0 (b.heap s) ++ F))) : Sta n W F b (E ++ [v]) g' w' (s.new o) a := by
  refine ⟨S.size, S.defers, fun t u hu => (S.fr t u hu).mono (EnvLe.app E [v]) m, ?_, fun k hk => ?_⟩
  · rw [heap_new]
    refine Sat.push S.sat.len ?_
    rw [heap_len]; exact H
  · rw [obj_new, if_neg (by have : s.n + 1 ≤ k := hk; omega)]
    exact S.top k (by have : s.n + 1 ≤ k := hk; omega)
/-- One object goes, another comes. -/
theorem Sta.move (S : Sta n W F b E g w s a) {l : Nat} {v u : Value} {o2 : HO} (h : E[l]? = some u) (m : Mono g g') (H : SL W g' w' (atomO (E ++ [v]) s.n o2 :: dropA (atomsO E 0 (b.heap s) ++ F) l)) : Sta n W F b (E ++ [v]) g' w' ((s.setO l .gone).new o2) a := by
  have hl := S.lt h
  refine ⟨S.size, S.defers, fun t u hu => (S.fr t u hu).mono (EnvLe.app E [v]) m, ?_, fun k hk => ?_⟩
  · rw [heap_new, heap_setO hl]
    refine Sat.move (o := b.obj s l) S.sat.len (heap_get hl) ?_
    rw [heap_len]; exact H
  · have hk' : s.n + 1 ≤ k := hk
    rw [obj_new, if_neg (by show ¬ s.n = k; omega), obj_setO, if_neg (by omega)]
    exact S.top k (by omega)

/-! ### Operands -/
theorem okB_ok : ∀ {v : Value}, okB v = true → okV v
  | .int k n, h => inK_wf.2 h
  | .string s, h => by
    have h' : decide (s.size ≤ maxLen) = true := h
    simpa [okV] using h'
  | .bool _, _ | .float .., _ | .complex .., _ | .pointer _, _ | .slice .., _ | .map _, _ | .chan _, _ | .func .., _ | .nilFunc, _ | .iface .., _ | .nilIface, _ => rfl
  | .agg _, h => h
  | .tuple _, h => h
theorem constCs_ok : ∀ {us : List Value} {l : List Cl}, constCs us = some l → RelCs E g l us
  | [], l, h => by
    obtain rfl : [] = l := Option.some.inj h
    exact RelCs.nil
  | v :: r, l, h => by
    unfold constCs at h
    split at h
    · rename_i hv
      split at h
      · rename_i q hq
        obtain rfl : .k v :: q = l := Option.some.inj h
        exact RelCs.cons ⟨rfl, okB_ok hv⟩ (constCs_ok hq)
      · cases h
    · cases h
theorem constV_ok {v : Value} {sv : SV} (h : constV v = some sv) : RelV E g sv v := by
  unfold constV at h
  split at h
  · rename_i cs
    split at h
    · rename_i l hl
      obtain rfl : SV.v (.agg l) = sv := Option.some.inj h
      exact ⟨cs.toList, constCs_ok hl, by simp⟩
    · cases h
  · split at h
    · rename_i hk
      obtain rfl : SV.k v = sv := Option.some.inj h
      exact ⟨rfl, okB_ok hk⟩
    · cases h
theorem Sta.opd (S : Sta n W F b E g w s a) {x : Operand} {v : SV} (h : Lm.opd b s x = some v) : RelV E g v (a.eval x) := by
  cases x with
  | tmp t => exact S.fr t v h
  | const u => exact constV_ok h
  | func f =>
    obtain rfl : SV.c (.fn f []) = v := Option.some.inj h
    exact ⟨[], RelCs.nil, rfl⟩
  | global _ => cases h
theorem RelV.k {v u : Value} (h : RelV E g (.k v) u) : u = v ∧ okV v := h
theorem relV_int {k : IntKind} {m : Int} {u : Value} (h : RelV E g (.v (.c (.k (.int k m)))) u) : u = .int k m ∧ inK k m := h
theorem relV_mk {k : IntKind} {m : Int} (h : inK k m) : RelV E g (.v (.c (.k (.int k m)))) (.int k m) := ⟨rfl, h⟩
theorem relV_bool (q : Bool) : RelV E g (.bool q) (.bool q) := ⟨rfl, rfl⟩

/-! ### Numbers -/
theorem wrap_inK (k : IntKind) (z : Int) : inK k (k.wrap z) := by
  cases k <;> simp [inK, IntKind.wrap, IntKind.signed, IntKind.bits] <;> refine ⟨?_, ?_⟩ <;> (try split) <;> omega
theorem wrap_self {k : IntKind} {z : Int} (h : inK k z) : k.wrap z = z := wrap_in (inK_wf.1 h)
theorem IntKind.beq_refl (k : IntKind) : IntKind.beq k k = true := by cases k <;> rfl
theorem tmod_inK {k : IntKind} {x y : Int} (h : inK k x) : inK k (x.tmod y) := by
  have h1 : 0 ≤ x → 0 ≤ x.tmod y ∧ x.tmod y ≤ x := fun h => ⟨Int.tmod_nonneg y h, by
    have := Int.tmod_add_mul_tdiv x y
    rcases Int.lt_or_le y 0 with hy | hy
    · have hq : x.tdiv y ≤ 0 := Int.tdiv_nonpos_of_nonneg_of_nonpos h (by omega)
      have : 0 ≤ y * x.tdiv y := Int.mul_nonneg_of_nonpos_of_nonpos (by omega) hq
      omega
    · have hq : 0 ≤ x.tdiv y := Int.tdiv_nonneg h hy
      have : 0 ≤ y * x.tdiv y := Int.mul_nonneg hy hq
      omega⟩
  rcases Int.lt_or_le x 0 with hx | hx
  · have h2 : x.tmod y = -((-x).tmod y) := by rw [Int.neg_tmod]; omega
    have h3 : 0 ≤ (-x).tmod y ∧ (-x).tmod y ≤ -x := by
      refine ⟨Int.tmod_nonneg y (by omega), ?_⟩
      have := Int.tmod_add_mul_tdiv (-x) y
      rcases Int.lt_or_le y 0 with hy | hy
      · have hq : (-x).tdiv y ≤ 0 := Int.tdiv_nonpos_of_nonneg_of_nonpos (by omega) (by omega)
        have : 0 ≤ y * (-x).tdiv y := Int.mul_nonneg_of_nonpos_of_nonpos (by omega) hq
        omega
      · have hq : 0 ≤ (-x).tdiv y := Int.tdiv_nonneg (by omega) hy
        have : 0 ≤ y * (-x).tdiv y := Int.mul_nonneg hy hq
        omega
    cases k <;> simp only [inK] at h ⊢ <;> omega
  · have := h1 hx
    cases k <;> simp only [inK] at h ⊢ <;> omega
theorem fdiv_inK {k : IntKind} {x : Int} {m : Nat} (h : inK k x) : inK k (x.fdiv (2 ^ m)) := by
  have hp : (1 : Int) ≤ 2 ^ m := by
    have : (0 : Int) < 2 ^ m := Int.pow_pos (by decide)
    omega
  have e : x.fdiv (2 ^ m) = x / 2 ^ m := Int.fdiv_eq_ediv_of_nonneg x (by omega)
  rw [e]
  generalize (2 : Int) ^ m = p at hp
  have hd := Int.mul_ediv_add_emod x p
  have h0 := Int.emod_nonneg x (show p ≠ 0 by omega)
  have h1 := Int.emod_lt_of_pos x (show 0 < p by omega)
  rcases Int.lt_or_le x 0 with hx | hx
  · have hq : x / p < 0 := Int.ediv_neg_of_neg_of_pos hx (by omega)
    have : x ≤ x / p := by
      have h2 : p * (x / p) ≤ 1 * (x / p) := Int.mul_le_mul_of_nonpos_right hp (by omega)
      have h3 : x < p * (x / p) + p := by omega
      rcases Int.lt_or_le (x / p) x with h4 | h4
      · exfalso
        have h5 : x / p + 1 ≤ x := by omega
        have h6 : p * (x / p) ≤ x := by omega
        have h7 : p * (x / p + 1) ≤ 1 * (x / p + 1) := Int.mul_le_mul_of_nonpos_right hp (by omega)
        rw [Int.mul_add, Int.mul_one] at h7
        omega
      · exact h4
    cases k <;> simp only [inK] at h ⊢ <;> omega
  · have hq : 0 ≤ x / p := Int.ediv_nonneg hx (by omega)
    have : x / p ≤ x := Int.ediv_le_self p hx
    cases k <;> simp only [inK] at h ⊢ <;> omega
end
end Go.Lm

/- Equality of structs with a struct within, and of strings as fields. General: no program in sight. -/
namespace Go.Lm
open Go Go.RowKit
theorem eqF_struct {P : Program} {w : World} {d n : Nat} {xs ys : Array Value} {f : Field} {fs : List Field} {gs : Array Field} {a b : Bool} (hn : (f.name != "_") = true) (hu : P.underlying f.type = some (.struct gs)) (hi : ((P.info? f.type).map (·.size)) = some n) (hp : P.stoodInHeld f.type = false)
    (hx : (Op.eqFields d (xs.extract f.offset (f.offset + n)) (ys.extract f.offset (f.offset + n)) gs.toList).run P w = .ok a w) (hr : (Op.eqFields (d + 1) xs ys fs).run P w = .ok b w) : (Op.eqFields (d + 1) xs ys (f :: fs)).run P w = .ok (a && b) w := by
  have hp1 : ∀ cs : Array Value, (part f.type cs f.offset).run P w = .ok (.agg (cs.extract f.offset (f.offset + n))) w := fun cs => by
    cases hq : P.info? f.type with
    | none => simp [hq] at hi
    | some i =>
      simp [hq] at hi
      subst hi
      simp [part, isAgg, sizeOf, typeInfo, run_underlying hu, go_sem, hq]
  have hne : f.name ≠ "_" := by simpa using hn
  have hfs : P.fieldsOf f.type = gs := by unfold Program.fieldsOf; rw [hu]
  have he := run_equalIn_struct (P := P) w d f.type (xs.extract f.offset (f.offset + n)) (ys.extract f.offset (f.offset + n)) (by rw [hfs]; exact hu) hp
  rw [hfs, hx] at he
  simp only [Op.eqFields, if_pos hne, Sem.run_bind, hp1, Result.andThen_ok, he]
  cases a
  · simp [go_sem]
  · simp [hr]
theorem eqF_str {P : Program} {w : World} {d : Nat} {xs ys : Array Value} {f : Field} {fs : List Field} {m n : ByteArray} {b : Bool} (hn : (f.name != "_") = true) (hu : P.underlying f.type = some .string) (hi : ((P.info? f.type).map (·.size)) = some 1)
    (hx : xs[f.offset]? = some (.string m)) (hy : ys[f.offset]? = some (.string n)) (hr : (Op.eqFields (d + 1) xs ys fs).run P w = .ok b w) : (Op.eqFields (d + 1) xs ys (f :: fs)).run P w = .ok ((m.toList == n.toList) && b) w := by
  have hpx : (part f.type xs f.offset).run P w = .ok (.string m) w := by
    cases hq : P.info? f.type with
    | none => simp [hq] at hi
    | some i => simp [part, isAgg, run_underlying hu, go_sem, hx]
  have hpy : (part f.type ys f.offset).run P w = .ok (.string n) w := by
    cases hq : P.info? f.type with
    | none => simp [hq] at hi
    | some i => simp [part, isAgg, run_underlying hu, go_sem, hy]
  have hne : f.name ≠ "_" := by simpa using hn
  have he : (Op.equalIn (d + 1) f.type (.string m) (.string n)).run P w = .ok (m.toList == n.toList) w := by
    simp [Op.equalIn, run_underlying hu, go_sem, beq_toListBytes]
  simp only [Op.eqFields, if_pos hne, Sem.run_bind, hpx, hpy, Result.andThen_ok, he]
  cases hb : m.toList == n.toList
  · simp [go_sem]
  · simp [hr]
end Go.Lm

/- Equality of structs: a field of truth values. General: no program in sight. -/
namespace Go.Lm
open Go Go.RowKit
theorem eqF_bool {P : Program} {w : World} {d : Nat} {xs ys : Array Value} {f : Field} {fs : List Field} {m n : Bool} {b : Bool} (hn : (f.name != "_") = true) (hu : P.underlying f.type = some .bool) (hi : ((P.info? f.type).map (·.size)) = some 1)
    (hx : xs[f.offset]? = some (.bool m)) (hy : ys[f.offset]? = some (.bool n)) (hr : (Op.eqFields (d + 1) xs ys fs).run P w = .ok b w) : (Op.eqFields (d + 1) xs ys (f :: fs)).run P w = .ok ((m == n) && b) w := by
  have hpx : (part f.type xs f.offset).run P w = .ok (.bool m) w := by
    cases hq : P.info? f.type with
    | none => simp [hq] at hi
    | some i => simp [part, isAgg, run_underlying hu, go_sem, hx]
  have hpy : (part f.type ys f.offset).run P w = .ok (.bool n) w := by
    cases hq : P.info? f.type with
    | none => simp [hq] at hi
    | some i => simp [part, isAgg, run_underlying hu, go_sem, hy]
  have hne : f.name ≠ "_" := by simpa using hn
  have he : (Op.equalIn (d + 1) f.type (.bool m) (.bool n)).run P w = .ok (m == n) w := by
    simp [Op.equalIn, run_underlying hu, go_sem]
  simp only [Op.eqFields, if_pos hne, Sem.run_bind, hpx, hpy, Result.andThen_ok, he]
  cases hb : m == n
  · simp [go_sem]
  · simp [hr]
end Go.Lm

/- What is reckoned holds: operations that yield a value and turn nothing. General: no program in sight. -/
namespace Go.Lm
open Go Go.RowKit

def Out (n : Nat) (W : Base) (F : List Atom) (b : Bs) (E : Env) (g : World) (a : Act) (K : SV → Ov → Prop) (v : Value) (w' : World) : Prop :=
  ∃ E' g' s' sv, EnvLe E E' ∧ Mono g g' ∧ Sta n W F b E' g' w' s' a ∧ RelV E' g' sv v ∧ K sv s'
def OpR (P : Program) (o : Oper) (a : Act) (w : World) (R : Value → World → Prop) : Prop :=
  (∃ v w', (execOp a.eval o).run P w = .ok (.value v) w' ∧ R v w') ∨ (∃ w', (execOp a.eval o).run P w = .ok .skip w' ∧ R undef w') ∨ (∃ f args, (execOp a.eval o).run P w = .ok (.enter f args) w ∧ Ret P f args w R)
/-- A piece of the model's text yields a value of which something is known. -/
def PR (P : Program) (m : Sem Value) (w : World) (E : Env) (g : World) (K : SV → Prop) : Prop := ∃ v sv, m.run P w = .ok v w ∧ RelV E g sv v ∧ K sv
section
variable {P : Program} {n : Nat} {W : Base} {F : List Atom} {b : Bs} {E : Env} {g w : World} {s : Ov} {a : Act} {K : SV → Prop}
theorem PR.ok {m : Sem Value} {v : Value} {sv : SV} (h : m.run P w = .ok v w) (r : RelV E g sv v) (k : K sv) : PR P m w E g K := ⟨v, sv, h, r, k⟩

/-! ### Operators -/
theorem run_intB {op : BinOp} {k : IntKind} {x y : Int} {t : TypeId} (hx : inK k x) (h : intB op k x y K) : PR P (binOp op t (.int k x) (.int k y)) w E g K := by
  have ar : ∀ {z : Int}, arith k z K → PR P (pure (Value.int k (k.wrap z))) w E g K := fun {z} h => by
    cases k <;> first
      | exact ⟨_, _, rfl, relV_mk (wrap_inK _ z), h (wrap_inK _ z)⟩
      | exact ⟨_, _, by rw [wrap_self (k := .i64) h.1]; rfl, relV_mk h.1, h.2⟩
  cases op
  case add =>
    have e : (binOp .add t (.int k x) (.int k y)) = pure (Value.int k (k.wrap (x + y))) := by simp [binOp, Op.intArith]
    rw [e]; exact ar h
  case sub =>
    have e : (binOp .sub t (.int k x) (.int k y)) = pure (Value.int k (k.wrap (x - y))) := by simp [binOp, Op.intArith]
    rw [e]; exact ar h
  case mul =>
    have e : (binOp .mul t (.int k x) (.int k y)) = pure (Value.int k (k.wrap (x * y))) := by simp [binOp, Op.intArith]
    rw [e]; exact ar h
  case quo =>
    obtain ⟨hy, h⟩ := h
    have e : (binOp .quo t (.int k x) (.int k y)) = pure (Value.int k (k.wrap (x.tdiv y))) := by simp [binOp, Op.intDiv, hy]
    rw [e]; exact ar h
  case rem =>
    obtain ⟨hy, h⟩ := h
    have e : (binOp .rem t (.int k x) (.int k y)) = pure (Value.int k (x.tmod y)) := by simp [binOp, Op.intDiv, hy]
    rw [e]; exact ⟨_, _, rfl, relV_mk (tmod_inK hx), h (tmod_inK hx)⟩
  case shl => exact h.elim
  case shr => exact h.elim
  case and =>
    have e : (binOp .and t (.int k x) (.int k y)) = pure (Value.int k (bitsI .and k x y)) := by simp [binOp, Op.intBits, bitsI]
    rw [e]; exact ⟨_, _, rfl, relV_mk (wrap_inK _ _), h (wrap_inK _ _)⟩
  case or =>
    have e : (binOp .or t (.int k x) (.int k y)) = pure (Value.int k (bitsI .or k x y)) := by simp [binOp, Op.intBits, bitsI]
    rw [e]; exact ⟨_, _, rfl, relV_mk (wrap_inK _ _), h (wrap_inK _ _)⟩
  case xor =>
    have e : (binOp .xor t (.int k x) (.int k y)) = pure (Value.int k (bitsI .xor k x y)) := by simp [binOp, Op.intBits, bitsI]
    rw [e]; exact ⟨_, _, rfl, relV_mk (wrap_inK _ _), h (wrap_inK _ _)⟩
  case andNot =>
    have e : (binOp .andNot t (.int k x) (.int k y)) = pure (Value.int k (bitsI .andNot k x y)) := by simp [binOp, Op.intBits, bitsI]
    rw [e]; exact ⟨_, _, rfl, relV_mk (wrap_inK _ _), h (wrap_inK _ _)⟩
  all_goals exact ⟨_, _, by simp [binOp, Op.intCmp], relV_bool _, h⟩
theorem run_strB {op : BinOp} {x y : ByteArray} {t : TypeId} (h : strB op x y K) : PR P (binOp op t (.string x) (.string y)) w E g K := by
  cases op <;> try exact h.elim
  case add =>
    have e : (binOp .add t (.string x) (.string y)) = pure (Value.string (x ++ y)) := by
      have h1 : ¬ ((x.size + y.size : Nat) : Int) > IntKind.i64.max := by
        have := h.1
        simp [IntKind.max, IntKind.signed, IntKind.bits]; omega
      simp only [binOp, Op.stringOp, if_neg h1]
    rw [e]
    refine ⟨_, .str (x ++ y), rfl, ⟨rfl, ?_⟩, h.2⟩
    have := h.1
    show (x ++ y).size ≤ maxLen
    rw [ByteArray.size_append]; exact this
  all_goals exact ⟨_, _, by simp [binOp, Op.stringOp]; rfl, relV_bool _, h⟩
theorem run_intW {wr : Bool} {op : BinOp} {k : IntKind} {x y : Int} {t : TypeId} (hx : inK k x) (h : intW wr op k x y K) : PR P (binOp op t (.int k x) (.int k y)) w E g K := by
  unfold intW at h
  split at h
  · split at h
    · have e : (binOp .add t (.int .i64 x) (.int .i64 y)) = pure (Value.int .i64 (IntKind.wrap .i64 (x + y))) := by simp [binOp, Op.intArith]
      rw [e]; exact ⟨_, _, rfl, relV_mk (wrap_inK _ _), h (wrap_inK _ _)⟩
    · have e : (binOp .sub t (.int .i64 x) (.int .i64 y)) = pure (Value.int .i64 (IntKind.wrap .i64 (x - y))) := by simp [binOp, Op.intArith]
      rw [e]; exact ⟨_, _, rfl, relV_mk (wrap_inK _ _), h (wrap_inK _ _)⟩
    · have e : (binOp .mul t (.int .i64 x) (.int .i64 y)) = pure (Value.int .i64 (IntKind.wrap .i64 (x * y))) := by simp [binOp, Op.intArith]
      rw [e]; exact ⟨_, _, rfl, relV_mk (wrap_inK _ _), h (wrap_inK _ _)⟩
    · exact run_intB hx h
  · exact run_intB hx h
theorem part_int {e : TypeId} {k0 : IntKind} (hu : P.underlying e = some (.int k0)) (hi : ((P.info? e).map (·.size)) = some 1) {cs : Array Value} {j : Nat} {v : Value} (hx : cs[j]? = some v) : (part e cs j).run P w = .ok v w := by
  cases hq : P.info? e with
  | none => simp [hq] at hi
  | some i => simp [part, isAgg, run_underlying hu, go_sem, hx]
theorem run_eqInts {d : Nat} {e : TypeId} {k0 : IntKind} (hu : P.underlying e = some (.int k0)) (hi : ((P.info? e).map (·.size)) = some 1) : ∀ {xs ys : List Cl} {us vs pu pv : List Value} {r : Bool}, eqInts k0 xs ys = some r → RelCs E g xs us → RelCs E g ys vs → pu.length = pv.length → (Op.eqItems (d + 1) e 1 (pu ++ us).toArray (pv ++ vs).toArray (List.range' pu.length xs.length)).run P w = .ok r w
  | [], [], us, vs, pu, pv, r, h, _, _, _ => by
    obtain rfl : true = r := Option.some.inj h
    rfl
  | [], _ :: _, _, _, _, _, _, h, _, _, _ => by simp [eqInts] at h
  | _ :: _, [], _, _, _, _, _, h, _, _, _ => by simp [eqInts] at h
  | x :: xs, y :: ys, us, vs, pu, pv, r, h, ⟨u, us', e1, h1, h2⟩, ⟨v, vs', e2, h3, h4⟩, hl => by
    unfold eqInts at h
    split at h
    · rename_i q1 _; exact absurd q1 (by simp)
    · rename_i k m l k' m' l' q1 q2
      obtain ⟨rfl, rfl⟩ := List.cons.inj q1
      obtain ⟨rfl, rfl⟩ := List.cons.inj q2
      split at h
      · rename_i hk
        rw [Bool.and_eq_true] at hk
        obtain rfl := IntKind.eq_of_beq hk.1
        obtain rfl := IntKind.eq_of_beq hk.2
        split at h
        · rename_i q hq
          obtain rfl := Option.some.inj h
          obtain ⟨rfl, _⟩ := h1
          obtain ⟨rfl, _⟩ := h3
          subst e1 e2
          have ih := run_eqInts (d := d) (pu := pu ++ [.int k0 m]) (pv := pv ++ [.int k0 m']) hu hi hq h2 h4 (by simp [hl])
          rw [List.append_assoc, List.append_assoc, List.length_append] at ih
          have hx : (pu ++ Value.int k0 m :: us').toArray[pu.length * 1]? = some (.int k0 m) := by simp
          have hy : (pv ++ Value.int k0 m' :: vs').toArray[pu.length * 1]? = some (.int k0 m') := by simp [hl]
          have hpx := part_int (w := w) hu hi hx
          have hpy := part_int (w := w) hu hi hy
          have he : (Op.equalIn (d + 1) e (.int k0 m) (.int k0 m')).run P w = .ok (m == m') w := by
            simp [Op.equalIn, run_underlying hu, go_sem]
          show (Op.eqItems (d + 1) e 1 (pu ++ Value.int k0 m :: us').toArray (pv ++ Value.int k0 m' :: vs').toArray (pu.length :: List.range' (pu.length + 1) xs.length)).run P w = _
          simp only [Op.eqItems, Sem.run_bind, hpx, hpy, Result.andThen_ok, he]
          cases hb : m == m'
          · simp [go_sem]
          · simpa using ih
        · cases h
      · cases h
    · cases h
theorem run_eqArr {d : Nat} {t e : TypeId} {n : Nat} {xs ys : List Cl} {us vs : List Value} {r : Bool} (ht : P.underlying t = some (.array n e)) (h : eqArr P n e xs ys = some r) (hx : RelCs E g xs us) (hy : RelCs E g ys vs) : (Op.equalIn (d + 2) t (.agg us.toArray) (.agg vs.toArray)).run P w = .ok r w := by
  unfold eqArr at h
  split at h
  · rename_i k0 i hu hi
    split at h
    · rename_i hs
      rw [Bool.and_eq_true] at hs
      have h1 := Nat.eq_of_beq_eq_true hs.1
      have h2 := Nat.eq_of_beq_eq_true hs.2
      have hc : P.cellsOf e = 1 := by unfold Program.cellsOf; rw [hi]; exact h1
      rw [run_equalIn_array w (d + 1) us.toArray vs.toArray ht hi, hc, ← h2, List.range_eq_range']
      exact run_eqInts (pu := []) (pv := []) hu (by rw [hi]; exact congrArg some h1) h hx hy rfl
    · cases h
  · cases h
theorem run_eqFs : ∀ (fuel : Nat) {fs : List Field} {xs ys : List Cl} {us vs : List Value} {r : Bool} {d : Nat}, eqFs P fuel fs xs ys = some r → RelCs E g xs us → RelCs E g ys vs → fuel ≤ d → (Op.eqFields d us.toArray vs.toArray fs).run P w = .ok r w
  | 0, _, _, _, _, _, _, _, h, _, _, _ => by simp [eqFs] at h
  | f + 1, [], _, _, _, _, r, d, h, _, _, hd => by
    obtain rfl : true = r := Option.some.inj h
    obtain ⟨d, rfl⟩ : ∃ k, d = k + 1 := ⟨d - 1, by omega⟩
    exact eqF_nil
  | fu + 1, f :: fs, xs, ys, us, vs, r, d, h, hx, hy, hd => by
    obtain ⟨d, rfl⟩ : ∃ k, d = k + 1 := ⟨d - 1, by omega⟩
    unfold eqFs at h
    split at h
    · rename_i hn
      split at h
      · rename_i k i hu hi
        split at h
        · rename_i hsz
          have hsz' : (P.info? f.type).map (·.size) = some 1 := by rw [hi]; exact congrArg some (Nat.eq_of_beq_eq_true hsz)
          split at h
          · rename_i k1 m k2 m2 hax hay
            split at h
            · rename_i hk
              rw [Bool.and_eq_true] at hk
              obtain rfl := IntKind.eq_of_beq hk.1
              obtain rfl := IntKind.eq_of_beq hk.2
              split at h
              · rename_i q hq
                obtain rfl := Option.some.inj h
                obtain ⟨u, h1, h2, h3⟩ := hx.get hax
                obtain ⟨v, h4, h5, h6⟩ := hy.get hay
                subst h2; subst h5
                exact eqF_int hn hu hsz' (by simpa using h1) (by simpa using h4) (run_eqFs fu hq hx hy (by omega))
              · cases h
            · cases h
          · cases h
        · cases h
      · rename_i i hu hi
        split at h
        · rename_i hsz
          have hsz' : (P.info? f.type).map (·.size) = some 1 := by rw [hi]; exact congrArg some (Nat.eq_of_beq_eq_true hsz)
          split at h
          · rename_i m m2 hax hay
            split at h
            · rename_i q hq
              obtain rfl := Option.some.inj h
              obtain ⟨u, h1, h2, h3⟩ := hx.get hax
              obtain ⟨v, h4, h5, h6⟩ := hy.get hay
              subst h2; subst h5
              exact eqF_bool hn hu hsz' (by simpa using h1) (by simpa using h4) (run_eqFs fu hq hx hy (by omega))
            · cases h
          · cases h
        · cases h
      · rename_i i hu hi
        split at h
        · rename_i hsz
          have hsz' : (P.info? f.type).map (·.size) = some 1 := by rw [hi]; exact congrArg some (Nat.eq_of_beq_eq_true hsz)
          split at h
          · rename_i m m2 hax hay
            split at h
            · rename_i q hq
              obtain rfl := Option.some.inj h
              obtain ⟨u, h1, h2, h3⟩ := hx.get hax
              obtain ⟨v, h4, h5, h6⟩ := hy.get hay
              subst h2; subst h5
              exact eqF_str hn hu hsz' (by simpa using h1) (by simpa using h4) (run_eqFs fu hq hx hy (by omega))
            · cases h
          · cases h
        · cases h
      · rename_i gs i hu hi
        split at h
        · cases h
        · rename_i hp
          split at h
          · rename_i q1 hq1
            split at h
            · rename_i q hq
              obtain rfl := Option.some.inj h
              refine eqF_struct hn hu (by rw [hi]; rfl) (by simpa using hp) ?_ (run_eqFs fu hq hx hy (by omega))
              have := run_eqFs fu (d := d) hq1 ((hx.drop f.offset).take i.size) ((hy.drop f.offset).take i.size) (by omega)
              rw [show (us.toArray.extract f.offset (f.offset + i.size)) = ((us.drop f.offset).take i.size).toArray by rw [List.extract_toArray, List.extract_eq_take_drop, Nat.add_sub_cancel_left],
                show (vs.toArray.extract f.offset (f.offset + i.size)) = ((vs.drop f.offset).take i.size).toArray by rw [List.extract_toArray, List.extract_eq_take_drop, Nat.add_sub_cancel_left]]
              exact this
            · cases h
          · cases h
      · cases h
    · cases h

/-! ### nil -/
def nilVal : Value → Bool
  | .pointer none | .slice none _ _ | .map none | .nilFunc | .nilIface => true
  | _ => false
def valTy (d : Option TypeDesc) (u : Value) : Bool := match d, u with
  | some (.pointer _), .pointer _ => true
  | some (.slice _), .slice _ _ _ => true
  | some (.map _ _), .map _ => true
  | some (.func _ _ _), .nilFunc | some (.func _ _ _), .func .. => true
  | some (.interface _), .nilIface | some (.interface _), .iface .. => true
  | _, _ => false
theorem isD_slice {e : Ty} {v : Value} {x : List e.den} (h : IsD e g v x) : ∃ a n c, v = .slice a n c ∧ (a = none → x = []) := by
  rcases (@is_list e.den e.rep g v x).1 h with ⟨h1, h2⟩ | ⟨a, c, h1, _⟩
  · exact ⟨none, 0, 0, h1, fun _ => h2⟩
  · exact ⟨some a, _, c, h1, fun h => by cases h⟩
theorem ofTy_val {d : Option TypeDesc} {x : Cl} {u : Value} (h : ofTy d x = true) (r : RelC E g x u) : valTy d u = true := by
  unfold ofTy at h
  split at h <;> first | (cases h; done) | skip
  · obtain ⟨rfl, _⟩ := r; rfl
  · obtain ⟨b, _, rfl⟩ := r; rfl
  · obtain ⟨h0, v, h1, h2⟩ := r
    obtain ⟨cs, h3, _⟩ := elemD h1 h0.1 h0.2.1
    obtain ⟨q, hq, _⟩ := h3 g (Mono.refl g)
    rw [h2, hq]; rfl
  · obtain ⟨v, _, _, q, rfl⟩ := r; rfl
  · obtain ⟨rfl, _⟩ := r; rfl
  · obtain ⟨q, n, c, rfl, _⟩ := isD_slice r; rfl
  · obtain ⟨_, q, n, c, rfl⟩ := r; rfl
  · obtain ⟨rfl, _⟩ := r; rfl
  · obtain ⟨b, _, rfl⟩ := r; rfl
  · obtain ⟨rfl, _⟩ := r; rfl
  · obtain ⟨us, _, rfl⟩ := r; rfl
  · obtain ⟨rfl, _⟩ := r; rfl
  · obtain ⟨v, _, rfl⟩ := r; rfl
theorem nilTy_val {d : Option TypeDesc} {y : Cl} {v : Value} (h : nilTy d y = true) (r : RelC E g y v) : valTy d v = true ∧ nilVal v = true := by
  unfold nilTy at h
  split at h <;> first | (cases h; done) | skip
  all_goals
    obtain ⟨rfl, _⟩ := r
    exact ⟨rfl, rfl⟩
theorem equalIn_nil {t : TypeId} {u v : Value} (k : Nat) (hu : valTy (P.underlying t) u = true) (hv : valTy (P.underlying t) v = true) (hn : nilVal v = true) :
    (Op.equalIn (k + 1) t u v).run P w = .ok (nilVal u) w ∧ (Op.equalIn (k + 1) t v u).run P w = .ok (nilVal u) w := by
  cases hd : P.underlying t with
  | none => rw [hd] at hu; cases u <;> cases hu
  | some d =>
    rw [hd] at hu hv
    cases d <;> (try (cases u <;> cases hu; done)) <;> cases u <;> (try (cases hu; done)) <;> cases v <;> (try (cases hv; done)) <;> (try (cases hn; done))
    case pointer.pointer.pointer e p q =>
      cases q with
      | some q => cases hn
      | none => cases p <;> constructor <;> simp [Op.equalIn, run_underlying hd, nilVal]
    case slice.slice.slice e p n c q n' c' =>
      cases q with
      | some q => cases hn
      | none => cases p <;> constructor <;> simp [Op.equalIn, run_underlying hd, nilVal]
    case map.map.map k e p q =>
      cases q with
      | some q => cases hn
      | none => cases p <;> constructor <;> simp [Op.equalIn, run_underlying hd, nilVal]
    all_goals constructor <;> simp [Op.equalIn, run_underlying hd, nilVal]
theorem equal_nil {t : TypeId} {u v : Value} (hu : valTy (P.underlying t) u = true) (hv : valTy (P.underlying t) v = true) (hn : nilVal v = true) :
    (Op.equal t u v).run P w = .ok (nilVal u) w ∧ (Op.equal t v u).run P w = .ok (nilVal u) w := equalIn_nil 9999 hu hv hn
end
end Go.Lm

/- What is reckoned holds: operators, loads, addresses, slices' parts. General: no program in sight. -/
namespace Go.Lm
open Go Go.RowKit
section
variable {P : Program} {n : Nat} {W : Base} {F : List Atom} {b : Bs} {E : Env} {g w : World} {s : Ov} {a : Act} {K : SV → Prop}
theorem guard_val {op : BinOp} {t : TypeId} {ox oy : Operand} {u v : Value} (hu : valTy (P.underlying t) u = true) (hc : u = .nilIface → v = .nilIface → (isConst ox || isConst oy) = true) : (eqGuard op t ox oy u v).run P w = .ok () w := by
  unfold eqGuard
  cases op <;> simp <;> cases u <;> (try rfl) <;> cases v <;> (try rfl)
  all_goals first
    | (cases hd : P.underlying t with
       | none => rw [hd] at hu; cases hu
       | some d => rw [hd] at hu; cases d <;> cases hu)
    | (have := hc rfl rfl
       cases ox <;> cases oy <;> simp [isConst] at this ⊢)
theorem bin_nil {op : BinOp} {t : TypeId} {ox oy : Operand} {u v : Value} {e : Bool} (he : isEq op = some e) (hu : valTy (P.underlying t) u = true) (hv : valTy (P.underlying t) v = true) (hn : nilVal v = true)
    (hc : u = .nilIface → v = .nilIface → (isConst ox || isConst oy) = true) :
    (do eqGuard op t ox oy u v; binOp op t u v : Sem Value).run P w = .ok (.bool (if e then nilVal u else !nilVal u)) w ∧ (do eqGuard op t ox oy v u; binOp op t v u : Sem Value).run P w = .ok (.bool (if e then nilVal u else !nilVal u)) w := by
  obtain ⟨h1, h2⟩ := equal_nil (P := P) (w := w) hu hv hn
  have g1 := guard_val (op := op) (ox := ox) (oy := oy) (w := w) hu hc
  have g2 := guard_val (P := P) (op := op) (ox := ox) (oy := oy) (w := w) (u := v) (v := u) hv fun a b => hc b a
  have b1 : ∀ x y : Value, valTy (P.underlying t) x = true → valTy (P.underlying t) y = true → binOp .eql t x y = (do pure (.bool (← Op.equal t x y))) ∧ binOp .neq t x y = (do pure (.bool (!(← Op.equal t x y)))) := fun x y hx hy => by
    cases hd : P.underlying t with
    | none => rw [hd] at hx; cases x <;> cases hx
    | some d =>
      rw [hd] at hx hy
      cases d <;> (try (cases x <;> cases hx; done)) <;> cases x <;> (try (cases hx; done)) <;> cases y <;> (try (cases hy; done)) <;> exact ⟨rfl, rfl⟩
  unfold isEq at he
  cases op <;> cases he
  · exact ⟨by rw [Sem.run_bind, g1, Result.andThen_ok, (b1 u v hu hv).1, Sem.run_bind, h1]; rfl, by rw [Sem.run_bind, g2, Result.andThen_ok, (b1 v u hv hu).1, Sem.run_bind, h2]; rfl⟩
  · exact ⟨by rw [Sem.run_bind, g1, Result.andThen_ok, (b1 u v hu hv).2, Sem.run_bind, h1]; rfl, by rw [Sem.run_bind, g2, Result.andThen_ok, (b1 v u hv hu).2, Sem.run_bind, h2]; rfl⟩
theorem slO_nil {e : Ty} {t : TypeId} {v : Value} {xs : List e.den} {l : List Atom} (H : SL W g w (slO e t v xs :: l)) : (∃ q m c, v = .slice q m c ∧ (q = none → xs = [])) := by
  letI := e.rep
  have h := SL.slIs0 (α := e.den) H
  rcases is_list.1 h with ⟨h1, h2⟩ | ⟨q, c, h1, _⟩
  · exact ⟨none, 0, 0, h1, fun _ => h2⟩
  · exact ⟨some q, _, c, h1, fun h => by cases h⟩
/-- An object's own statement, by its kind. -/
theorem St_sl (S : Sta n W F b E g w s a) {l : Nat} {v : Value} (h : E[l]? = some v) {t : TypeId} {e : Ty} {xs : List e.den} (ho : b.obj s l = .sl t e xs) : SL W g w (slO e t v xs :: dropA (atomsO E 0 (b.heap s) ++ F) l) := by
  have H := S.pick h
  rw [ho] at H
  refine H.weak fun k ⟨h1, h2, ap, q, ⟨u, s1, s2⟩, s3⟩ => ⟨h1, h2, ap, q, ?_, s3⟩
  rw [h] at s1
  obtain rfl := Option.some.inj s1
  exact s2
theorem St_held (S : Sta n W F b E g w s a) {l : Nat} {v : Value} (h : E[l]? = some v) {t : TypeId} {e : Ty} {xs : List e.den} (ho : b.obj s l = .held t e xs) : IsD e g v xs := by
  have H := S.pick h
  rw [ho] at H
  obtain ⟨k, _, _, _, h1, h2, ap, q, ⟨u, s1, s2⟩, s3⟩ := H
  rw [h] at s1
  obtain rfl := Option.some.inj s1
  exact s2
theorem St_cells (S : Sta n W F b E g w s a) {l : Nat} {bb : Nat} (h : E[l]? = some (ptr bb 0)) {t : TypeId} {cs : List Cl} (ho : b.obj s l = .cells t cs) : ∃ us, RelCs E g cs us ∧ Blk w bb us.toArray t ∧ SL W g w (blk bb us.toArray t :: dropA (atomsO E 0 (b.heap s) ++ F) l) := by
  have H := S.pick h
  rw [ho] at H
  obtain ⟨k, be, se, ow, h1, h2, ap, q, ⟨b', us, s1, s2, s3⟩, s4⟩ := H
  rw [h] at s1
  have : bb = b' := by
    have := Option.some.inj s1
    simp [ptr] at this; exact this
  subst this
  have H' : SL W g w (blk bb us.toArray t :: dropA (atomsO E 0 (b.heap s) ++ F) l) := ⟨k, be, se, ow, h1, h2, ap, q, s3, s4⟩
  exact ⟨us, s2, H'.has0.2.1, H'⟩
theorem nilK_ok (S : Sta n W F b E g w s a) {d : Option TypeDesc} {x : Cl} {u : Value} {cst e : Bool} (ht : ofTy d x = true) (r : RelC E g x u) (h : nilK b s cst x e K) : K (.bool (if e then nilVal u else !nilVal u)) ∧ (u = .nilIface → cst = true) := by
  unfold nilK at h
  split at h
  · rename_i hn
    unfold nilOf at hn
    split at hn <;> (try (cases hn; done))
    all_goals first
      | (obtain ⟨rfl, _⟩ := r
         simp only [isIface, Bool.true_and, Bool.false_and, Bool.false_eq_true, if_false] at h
         first
           | (cases cst
              · simp at h
              · simp only [Bool.not_true, Bool.false_eq_true, if_false] at h
                cases e <;> exact ⟨h, fun _ => rfl⟩)
           | (cases e <;> exact ⟨h, fun q => by cases q⟩))
      | (split at hn <;> cases hn)
  · rename_i hn
    have hv : nilVal u = false ∧ u ≠ .nilIface := by
      unfold nilOf at hn
      split at hn <;> (try (cases hn; done))
      · obtain ⟨_, _, rfl⟩ := r; exact ⟨rfl, fun q => by cases q⟩
      · obtain ⟨h0, v, h1, h2⟩ := r
        obtain ⟨cs, h3, _⟩ := elemD h1 h0.1 h0.2.1
        obtain ⟨q, hq, _⟩ := h3 g (Mono.refl g)
        rw [h2, hq]; exact ⟨rfl, fun q => by cases q⟩
      · obtain ⟨v, _, _, q, rfl⟩ := r; exact ⟨rfl, fun q => by cases q⟩
      · obtain ⟨_, _, rfl⟩ := r; exact ⟨rfl, fun q => by cases q⟩
      · obtain ⟨_, _, rfl⟩ := r; exact ⟨rfl, fun q => by cases q⟩
      · obtain ⟨_, _, rfl⟩ := r; exact ⟨rfl, fun q => by cases q⟩
      · split at hn <;> cases hn
    rw [hv.1]
    exact ⟨by cases e <;> exact h, fun q => absurd q hv.2⟩
  · rename_i p hn
    have hv : (nilVal u = true → p) ∧ u ≠ .nilIface := by
      unfold nilOf at hn
      split at hn <;> (try (cases hn; done))
      · cases hn
        obtain ⟨q, m, c, rfl, hq⟩ := isD_slice r
        exact ⟨fun hz => hq (by cases q <;> first | rfl | cases hz), fun q => by cases q⟩
      · split at hn <;> (try (cases hn; done))
        · cases hn
          rename_i ho
          obtain ⟨q, m, c, rfl, hq⟩ := slO_nil (St_sl S r.1 ho)
          exact ⟨fun hz => hq (by cases q <;> first | rfl | cases hz), fun q => by cases q⟩
        · cases hn
          rename_i ho
          obtain ⟨q, m, c, rfl, hq⟩ := isD_slice (St_held S r.1 ho)
          exact ⟨fun hz => hq (by cases q <;> first | rfl | cases hz), fun q => by cases q⟩
    exact ⟨h _ hv.1, fun q => absurd q hv.2⟩
  · exact h.elim
theorem guard_scal {op : BinOp} {t : TypeId} {ox oy : Operand} {u v : Value} (h : (∃ k m k' m', u = .int k m ∧ v = .int k' m') ∨ (∃ x y, u = .string x ∧ v = .string y) ∨ (∃ x y, u = .bool x ∧ v = .bool y)) : (eqGuard op t ox oy u v).run P w = .ok () w := by
  rcases h with ⟨k, m, k', m', rfl, rfl⟩ | ⟨x, y, rfl, rfl⟩ | ⟨x, y, rfl, rfl⟩ <;> cases op <;> simp [eqGuard]
theorem PR.bind {m : Sem Unit} {f : Sem Value} (h : m.run P w = .ok () w) (k : PR P f w E g K) : PR P (do m; f) w E g K := by
  obtain ⟨v, sv, h1, h2, h3⟩ := k
  exact ⟨v, sv, by rw [Sem.run_bind, h]; exact h1, h2, h3⟩
theorem run_binV (S : Sta n W F b E g w s a) {wr : Bool} {op : BinOp} {t : TypeId} {ox oy : Operand} {x y : SV} {u v : Value} (rx : RelV E g x u) (ry : RelV E g y v) (h : binV wr P b s (isConst ox || isConst oy) op t x y K) :
    PR P (do eqGuard op t ox oy u v; binOp op t u v) w E g K := by
  unfold binV at h
  split at h
  · obtain ⟨rfl, hx⟩ := relV_int rx
    obtain ⟨rfl, hy⟩ := relV_int ry
    refine PR.bind (guard_scal (.inl ⟨_, _, _, _, rfl, rfl⟩)) ?_
    split at h
    · rename_i k m k' q _
      have e : (binOp .shl t (.int k m) (.int k' q)) = pure (.int k (shlI k m q)) := by simp [binOp, Op.shift, shlI, Int.not_lt.2 h.1]
      rw [e]; exact ⟨_, _, rfl, relV_mk (wrap_inK _ _), h.2 (wrap_inK _ _)⟩
    · rename_i k m k' q _
      have e : (binOp .shr t (.int k m) (.int k' q)) = pure (.int k (shrI k m q)) := by simp [binOp, Op.shift, shrI, Int.not_lt.2 h.1]
      rw [e]; exact ⟨_, _, rfl, relV_mk (fdiv_inK hx), h.2 (fdiv_inK hx)⟩
    · split at h
      · rename_i hk
        obtain rfl := IntKind.eq_of_beq hk
        exact run_intW hx h
      · exact h.elim
  · obtain ⟨rfl, hx⟩ := rx
    obtain ⟨rfl, hy⟩ := ry
    exact PR.bind (guard_scal (.inr (.inl ⟨_, _, rfl, rfl⟩))) (run_strB h)
  · obtain ⟨rfl, hx⟩ := rx
    obtain ⟨rfl, hy⟩ := ry
    refine PR.bind (guard_scal (.inr (.inr ⟨_, _, rfl, rfl⟩))) ?_
    split at h
    · rename_i m q _ _ hu
      exact ⟨_, _, run_eql_bool w t m q hu, relV_bool _, h⟩
    · rename_i m q _ _ hu
      exact ⟨_, _, run_neq_bool w t m q hu, relV_bool _, h⟩
    · exact h.elim
  · obtain ⟨us, hx, rfl⟩ := rx
    obtain ⟨vs, hy, rfl⟩ := ry
    split at h
    · rename_i fs hu
      split at h
      · exact h.elim
      · rename_i hg
        simp only [Bool.not_eq_true, Bool.or_eq_false_iff] at hg
        have hgd : (eqGuard op t ox oy (.agg us.toArray) (.agg vs.toArray)).run P w = .ok () w := by
          cases op <;> simp [eqGuard, hg.1]
        refine PR.bind hgd ?_
        have hfs : P.fieldsOf t = fs := by unfold Program.fieldsOf; rw [hu]
        split at h
        · rename_i r hr hq
          have he := run_eqFs (w := w) 9999 hq hx hy (Nat.le_refl _)
          have h2 := run_equalIn_struct (P := P) w 9999 t us.toArray vs.toArray (by rw [hfs]; exact hu) hg.2
          rw [hfs] at h2
          unfold isEq at hr
          cases op <;> cases hr
          exact ⟨_, _, by rw [run_eql_struct, h2, he]; rfl, relV_bool _, h⟩
        · rename_i r hr hq
          have he := run_eqFs (w := w) 9999 hq hx hy (Nat.le_refl _)
          have h2 := run_equalIn_struct (P := P) w 9999 t us.toArray vs.toArray (by rw [hfs]; exact hu) hg.2
          rw [hfs] at h2
          unfold isEq at hr
          cases op <;> cases hr
          exact ⟨_, _, by rw [run_neq_struct, h2, he]; rfl, relV_bool _, h⟩
        · exact h.elim
    · rename_i n e hu
      split at h
      · exact h.elim
      · rename_i hg
        rw [Bool.not_eq_true] at hg
        have hgd : (eqGuard op t ox oy (.agg us.toArray) (.agg vs.toArray)).run P w = .ok () w := by
          cases op <;> simp [eqGuard, hg]
        refine PR.bind hgd ?_
        split at h
        · rename_i r hr hq
          have he := run_eqArr (w := w) (d := 9998) hu hq hx hy
          unfold isEq at hr
          cases op <;> cases hr
          exact ⟨_, _, by rw [run_eql_struct, he]; rfl, relV_bool _, h⟩
        · rename_i r hr hq
          have he := run_eqArr (w := w) (d := 9998) hu hq hx hy
          unfold isEq at hr
          cases op <;> cases hr
          exact ⟨_, _, by rw [run_neq_struct, he]; rfl, relV_bool _, h⟩
        · exact h.elim
    · exact h.elim
  · split at h
    · rename_i e he
      split at h
      · rename_i ht
        rw [Bool.and_eq_true] at ht
        obtain ⟨h1, h2⟩ := nilK_ok S ht.2 rx h
        obtain ⟨n1, n2⟩ := nilTy_val ht.1 ry
        exact ⟨_, _, (bin_nil he (ofTy_val ht.2 rx) n1 n2 fun q _ => h2 q).1, relV_bool _, h1⟩
      · split at h
        · rename_i ht
          rw [Bool.and_eq_true] at ht
          obtain ⟨h1, h2⟩ := nilK_ok S ht.2 ry h
          obtain ⟨n1, n2⟩ := nilTy_val ht.1 rx
          exact ⟨_, _, (bin_nil he (ofTy_val ht.2 ry) n1 n2 fun q _ => h2 q).2, relV_bool _, h1⟩
        · exact h.elim
    · exact h.elim
  · exact h.elim
theorem run_unV {wr : Bool} {op : UnOp} {x : SV} {u : Value} (rx : RelV E g x u) (h : unV wr op x K) : PR P (Op.unary op u) w E g K := by
  unfold unV at h
  split at h
  · obtain ⟨rfl, _⟩ := rx
    exact ⟨_, _, rfl, relV_bool _, h⟩
  · rename_i k m
    obtain ⟨rfl, hx⟩ := relV_int rx
    have e : (Op.unary .neg (.int k m)) = (binOp .sub 0 (.int k 0) (.int k m)) := by simp [Op.unary, Op.intArith, binOp]
    rw [e]
    exact run_intW (by cases k <;> exact ⟨by decide, by decide⟩) h
  · rename_i k m
    obtain ⟨rfl, hx⟩ := relV_int rx
    have e : (Op.unary .xor (.int k m)) = pure (Value.int k (bitsI .xor k (if k.signed then -1 else k.max) m)) := by simp [Op.unary, Op.intBits, bitsI]
    rw [e]; exact ⟨_, _, rfl, relV_mk (wrap_inK _ _), h (wrap_inK _ _)⟩
  · exact h.elim
end
end Go.Lm

/- What is reckoned holds: loads, stores, addresses, parts. General: no program in sight. -/
namespace Go.Lm
open Go Go.RowKit
section
variable {P : Program} {n : Nat} {W : Base} {F : List Atom} {b : Bs} {E : Env} {g w : World} {s : Ov} {a : Act} {K : SV → Prop}
theorem addP_add (v : Value) (i j : Nat) : addP (addP v i) j = addP v (i + j) := by
  cases v with
  | pointer p =>
    cases p with
    | none => rfl
    | some q => simp [addP, Go.Deep.add_add]
  | _ => rfl
/-- A load out of an element's cells. -/
theorem load_elem {g1 : World} {k : Nat} {v : Value} {i : Int} {vs : List Value} {cs : List Cl} {t : TypeId} {off : Nat} {r : S1} (h : ElemAt g1 k v i vs) (m : Mono g1 w) (hc : RelCs E g cs vs) (hp : part1 P t cs off = some r) :
    ∃ u, (Instr.loadAt t (addP (elemP k v i) off)).run P w = .ok u w ∧ RelS E g r u := by
  unfold part1 at hp
  split at hp
  · cases hp
  · rename_i d hd
    split at hp
    · rename_i hr
      split at hp
      · rename_i ie hie
        split at hp
        · rename_i hle
          obtain rfl := Option.some.inj hp
          have hl : off + ie.size ≤ vs.length := by rw [hc.length]; exact Nat.le_of_ble_eq_true hle
          exact ⟨_, run_elem_part h m hd hr (by rw [hie]; rfl) hl, _, (hc.drop off).take ie.size, rfl⟩
        · cases hp
      · cases hp
    · rename_i hr
      split at hp
      · rename_i c hcc
        obtain rfl := Option.some.inj hp
        obtain ⟨u, h1, h2⟩ := hc.get hcc
        exact ⟨u, run_elem_field h m hd (by simpa using hr) h1, h2⟩
      · cases hp
theorem load_blk {bb : Nat} {us : List Value} {cs : List Cl} {t t' : TypeId} {off : Nat} {r : S1} (h : Blk w bb us.toArray t') (hc : RelCs E g cs us) (hp : part1 P t cs off = some r) :
    ∃ u, (Instr.loadAt t (ptr bb off)).run P w = .ok u w ∧ RelS E g r u := by
  unfold part1 at hp
  split at hp
  · cases hp
  · rename_i d hd
    split at hp
    · rename_i hr
      split at hp
      · rename_i ie hie
        split at hp
        · rename_i hle
          obtain rfl := Option.some.inj hp
          have hl : off + ie.size ≤ us.length := by rw [hc.length]; exact Nat.le_of_ble_eq_true hle
          have hlen : ((us.drop off).take ie.size).length = ie.size := by simp; omega
          exact ⟨_, run_load_row (vs := (us.drop off).take ie.size) h hd hr (by rw [hie, hlen]; rfl) (by rw [hlen]), _, (hc.drop off).take ie.size, rfl⟩
        · cases hp
      · cases hp
    · rename_i hr
      split at hp
      · rename_i c hcc
        obtain rfl := Option.some.inj hp
        obtain ⟨u, h1, h2⟩ := hc.get hcc
        exact ⟨u, run_load_one h hd (by simpa using hr) (by simpa using h1), h2⟩
      · cases hp
theorem own_elemD {e : Ty} {t : TypeId} {v : Value} {xs : List e.den} {i : Int} {l : List Atom} (H : SL W g w (slO e t v xs :: l)) (h0 : 0 ≤ i) (h1 : i < xs.length) : ∃ cs, ElemAt w e.size v i cs ∧ e.rep.rel g cs (ixD e xs i) := by
  letI := e.rep
  obtain ⟨cs, h2, h3⟩ := own_elem (α := e.den) H h0 h1
  have hs : GoRep.size e.den = e.size := Ty.rep_size e
  rw [hs] at h2
  refine ⟨cs, h2, ?_⟩
  have : ixD e xs i = xs[i.toNat]'(by omega) := by
    unfold ixD
    rw [List.getD_eq_getElem?_getD, List.getElem?_eq_getElem (by omega)]; rfl
  rw [this]; exact h3
theorem run_loadV (S : Sta n W F b E g w s a) {t : TypeId} {x : Cl} {u : Value} (rx : RelC E g x u) (h : loadV P b s t x K) : PR P (Instr.loadAt t u) w E g K := by
  unfold loadV at h
  split at h
  · obtain ⟨bb, hE, rfl⟩ := rx
    split at h
    · rename_i ho
      split at h
      · rename_i r hr
        obtain ⟨us, h1, h2, _⟩ := St_cells S hE ho
        obtain ⟨v, h3, h4⟩ := load_blk h2 h1 hr
        exact ⟨v, .v r, h3, h4, h⟩
      · exact h.elim
    · exact h.elim
  · obtain ⟨h0, v, h1, rfl⟩ := rx
    split at h
    · rename_i r hr
      obtain ⟨cs, h2, h3⟩ := elemD h1 h0.1 h0.2.1
      obtain ⟨h4, h5⟩ := rel_cells E g _ h3
      obtain ⟨q, h6, h7⟩ := load_elem h2 S.m h4 hr
      exact ⟨q, .v r, h6, h7, h h5⟩
    · exact h.elim
  · obtain ⟨v, hE, rfl, _⟩ := rx
    split at h
    · rename_i ho
      split at h
      · rename_i hsz
        obtain ⟨h0, h1, h⟩ := h
        split at h
        · rename_i r hr
          obtain ⟨cs, h2, h3⟩ := own_elemD (St_sl S hE ho) h0 h1
          obtain ⟨h4, h5⟩ := rel_cells E g _ h3
          obtain ⟨q, h6, h7⟩ := load_elem h2 (Mono.refl w) h4 hr
          rw [Nat.eq_of_beq_eq_true hsz] at h6
          exact ⟨q, .v r, h6, h7, h h5⟩
        · exact h.elim
      · exact h.elim
    · exact h.elim
  · exact h.elim
end
end Go.Lm

/- What is reckoned holds: lengths, places, parts. General: no program in sight. -/
namespace Go.Lm
open Go Go.RowKit
/-- An operation that turns nothing. -/
def ER (P : Program) (o : Oper) (a : Act) (w : World) (E : Env) (g : World) (K : SV → Prop) : Prop := ∃ v sv, (execOp a.eval o).run P w = .ok (.value v) w ∧ RelV E g sv v ∧ K sv
section
variable {P : Program} {n : Nat} {W : Base} {F : List Atom} {b : Bs} {E : Env} {g w : World} {s : Ov} {a : Act} {K : SV → Prop} {o : Oper}
theorem ER.of {m : Sem Value} (h : execOp a.eval o = (do pure (.value (← m)))) (k : PR P m w E g K) : ER P o a w E g K := by
  obtain ⟨v, sv, h1, h2, h3⟩ := k
  exact ⟨v, sv, by rw [h, Sem.run_bind, h1]; rfl, h2, h3⟩
theorem len_sl {e : Ty} {v : Value} {xs : List e.den} {x : Operand} {t et : TypeId} (h : IsD e w v xs) (ho : o.op = .call { callee := .builtin .len, args := #[x], argTypes := #[t] }) (ht : P.underlying t = some (.slice et)) (hx : a.eval x = v) : (execOp a.eval o).run P w = .ok (.value (.int .i64 xs.length)) w := by
  letI := e.rep
  exact X_len (α := e.den) h ho ht hx
theorem isD_sl {e : Ty} {t : TypeId} {v : Value} {xs : List e.den} {l : List Atom} (H : SL W g w (slO e t v xs :: l)) : IsD e w v xs := by
  letI := e.rep
  exact SL.slIs0 (α := e.den) H
theorem MapVs.length {k : Kk} {e : Ty} : ∀ {l : List (k.den × Value)} {xs : List (k.den × e.den)}, MapVs g k e l xs → l.length = xs.length
  | [], _, h => by rw [show _ = [] from h]; rfl
  | _ :: _, _, ⟨x, r, q, _, h2⟩ => by rw [q, List.length_cons, List.length_cons, h2.length]
/-- A map of one's own. -/
theorem kk_under {P : Program} {t : TypeId} {k : Kk} (h : kkOk P t k = true) : P.underlying t = some (match k with | .int => .int .i64 | .str => .string) := by
  unfold kkOk at h
  split at h
  · assumption
  · assumption
  · cases h
theorem keyOf_re {P P' : Program} {t : TypeId} {k : Kk} (h : kkOk P t k = true) (h' : kkOk P' t k = true) (v : Value) : keyOf P t v = keyOf P' t v := by
  have hu := kk_under h
  have hu' := kk_under h'
  cases k <;> simp only [keyOf, hu, hu', mapKey]
theorem mapA_re {P P' : Program} {t : TypeId} {k : Kk} (h : kkOk P t k = true) (h' : kkOk P' t k = true) {bb : Nat} {m : List (k.den × Value)} {hh : Hp} : (@mapA k.den k.key P t bb m).sat g hh → (@mapA k.den k.key P' t bb m).sat g hh := by
  letI := k.key
  rintro ⟨es, clock, h1, ⟨⟨f1, f2, f3⟩, h3⟩⟩
  have hrd : ∀ x, WideElems.rd P t holdV x = WideElems.rd P' t holdV x := fun x => by unfold WideElems.rd; rw [keyOf_re h h']
  refine ⟨es, clock, h1, ⟨⟨f1, f2, fun x hx => by rw [← hrd]; exact f3 x hx⟩, ?_⟩⟩
  have hrg : WideElems.rg P' t holdV = WideElems.rg P t holdV := funext fun x => by unfold WideElems.rg; rw [hrd]
  rw [hrg]; exact h3
theorem St_map {P : Program} (S : Sta n W F b E g w s a) {l bb : Nat} (h : E[l]? = some (ptr bb 0)) {t : TypeId} {k : Kk} {e : Ty} {xs : List (k.den × e.den)} (ho : b.obj s l = .map t k e xs) (hk : kkOk P t k = true) :
    ∃ m, MapVs g k e m xs ∧ SL W g w (@mapA k.den k.key P t bb m :: dropA (atomsO E 0 (b.heap s) ++ F) l) := by
  have H := S.pick h
  rw [ho] at H
  obtain ⟨k1, be, se, ow, h1, h2, ap, q, ⟨b', m, s1, s2, P', hk', s3⟩, s4⟩ := H
  rw [h] at s1
  have : bb = b' := by
    have := Option.some.inj s1
    simp [ptr] at this; exact this
  subst this
  exact ⟨m, s2, k1, be, se, ow, h1, h2, ap, q, mapA_re hk' hk s3, s4⟩
theorem run_lenV (S : Sta n W F b E g w s a) {x : Operand} {t : TypeId} {c : Cl} (ho : o.op = .call { callee := .builtin .len, args := #[x], argTypes := #[t] }) (r : RelC E g c (a.eval x)) (h : lenV P b s t c K) : ER P o a w E g K := by
  have ii : ∀ {m : Nat}, m ≤ 9223372036854775807 → inK .i64 (m : Int) := fun {m} h => by
    show (-9223372036854775808 : Int) ≤ m ∧ (m : Int) ≤ 9223372036854775807
    omega
  unfold lenV at h
  split at h
  · rename_i z ht
    obtain ⟨hx, hz⟩ := r
    exact ⟨_, _, X_len_str ho ht hx, relV_mk (ii hz), h⟩
  · rename_i et ht
    obtain ⟨hx, _⟩ := r
    have : IsD .unit w (.slice none 0 0) [] := (@is_list Unit Ty.unit.rep w _ _).2 (.inl ⟨rfl, rfl⟩)
    exact ⟨_, _, len_sl this ho ht hx, relV_mk (ii (by simp)), h⟩
  · rename_i kt et ht
    obtain ⟨hx, _⟩ := r
    exact ⟨_, _, X_len_nilmap ho ht hx, relV_mk (ii (m := 0) (by simp)), h⟩
  · rename_i et e x ht
    have hl := isD_len (show IsD e g _ x from r)
    exact ⟨_, _, len_sl (IsD.mono S.m r) ho ht rfl, relV_mk (ii hl), h hl⟩
  · rename_i et l off m ht
    obtain ⟨bb, c, hE, hc, hx⟩ := r
    obtain ⟨hm, h⟩ := h
    refine ⟨.int .i64 m, _, ?_, relV_mk (ii hm), h⟩
    simp [execOp, ho, resolve, invoke, builtin, Builtin.len_, hx, run_underlying ht, Builtin.lenOf, goInt]
  · rename_i et l ht
    obtain ⟨hE, _⟩ := r
    split at h
    · rename_i hob
      have hi := isD_sl (St_sl S hE hob)
      have hl := isD_len hi
      exact ⟨_, _, len_sl hi ho ht rfl, relV_mk (ii hl), h hl⟩
    · rename_i hob
      have hi := St_held S hE hob
      have hl := isD_len hi
      exact ⟨_, _, len_sl (hi.mono S.m) ho ht rfl, relV_mk (ii hl), h hl⟩
    · exact h.elim
  · rename_i kt et l ht
    obtain ⟨bb, hE, hx⟩ := r
    split at h
    · rename_i k' kk e xs hob
      obtain ⟨hk, h9⟩ := if_ok h
      rw [Bool.and_eq_true] at hk
      obtain ⟨hk1, hk2⟩ := hk
      obtain rfl := Nat.eq_of_beq_eq_true hk1
      obtain ⟨m, h1, H⟩ := St_map S hE hob hk2
      letI := kk.key
      have hl : xs.length ≤ 9223372036854775807 := by
        rw [← h1.length]; exact H.mapLen_le
      refine ⟨.int .i64 xs.length, _, ?_, relV_mk (ii hl), h9 hl⟩
      have := H.mapLen ht o.type
      rw [h1.length] at this
      simp [execOp, ho, resolve, invoke, builtin, hx, this]
    · exact h.elim
  · exact h.elim
theorem run_addrF {t : TypeId} {x : Operand} {j : Nat} {c c' : Cl} {f : Field} {ie : TypeInfo} (ho : o.op = .fieldAddr t x j) (r : RelC E g c (a.eval x)) (hf : fieldOf P t j = some f) (hi : P.info? f.type = some ie) (hs : Nat.blt 0 ie.size = true) (hc : addrF c f.offset = some c')
    : ∃ v, (execOp a.eval o).run P w = .ok (.value v) w ∧ RelC E g c' v := by
  have hpos : ¬ ie.size = 0 := by
    have : 0 < ie.size := by simpa using hs
    omega
  unfold fieldOf at hf
  split at hf
  · rename_i fs ht
    have key : ∀ q : Addr, a.eval x = .pointer (some q) → (execOp a.eval o).run P w = .ok (.value (.pointer (some (q.add f.offset)))) w := fun q hq => by
      simp [execOp, ho, hq, Instr.fieldAt, Instr.sureAddr, run_underlying ht, hf, fieldPlace, sizeOf, typeInfo, hi, hpos]
    unfold addrF at hc
    split at hc
    · obtain rfl := Option.some.inj hc
      obtain ⟨bb, hE, hx⟩ := r
      refine ⟨_, key _ hx, bb, hE, ?_⟩
      unfold Addr.add
      split
      · rename_i h0; simp [h0]
      · rfl
    · split at hc
      · rename_i hle
        obtain rfl := Option.some.inj hc
        obtain ⟨h0, v, h1, hx⟩ := r
        obtain ⟨cs, h3, _⟩ := elemD h1 h0.1 h0.2.1
        obtain ⟨q, hq, _⟩ := h3 g (Mono.refl g)
        rw [hq] at hx
        refine ⟨_, key _ hx, ⟨h0.1, h0.2.1, Nat.le_of_ble_eq_true hle⟩, v, h1, ?_⟩
        rw [hq]
        simp [addP, Go.Deep.add_add]
      · cases hc
    · obtain rfl := Option.some.inj hc
      obtain ⟨v, hE, hx, q, hq⟩ := r
      refine ⟨_, key _ hq, v, hE, ?_, _, rfl⟩
      rw [← addP_add, ← hx, hq]; rfl
    · cases hc
  · cases hf
theorem run_idx {x i : Operand} {t et : TypeId} {e : Ty} {v : Value} {xs : List e.den} {k : Int} {ie : TypeInfo} (h : IsD e w v xs) (h0 : 0 ≤ k) (h1 : k < xs.length) (ho : o.op = .indexAddr t x i) (ht : P.underlying t = some (.slice et)) (hi : P.info? et = some ie) (hs : Nat.beq e.size ie.size = true)
    (hx : a.eval x = v) (hk : a.eval i = .int .i64 k) : (execOp a.eval o).run P w = .ok (.value (elemP e.size v k)) w := by
  letI := e.rep
  have hsz : GoRep.size e.den = e.size := Ty.rep_size e
  have := X_indexAddr (α := e.den) (P := P) (o := o) (ρ := a.eval) h h0 h1 ho ht (by rw [hi, hsz]; exact congrArg some (Nat.eq_of_beq_eq_true hs).symm) hx hk
  rw [hsz] at this; exact this
theorem elemP_ptr {e : Ty} {v : Value} {xs : List e.den} {k : Int} (h : IsD e w v xs) (h0 : 0 ≤ k) (h1 : k < xs.length) : addP (elemP e.size v k) 0 = elemP e.size v k ∧ ∃ q, elemP e.size v k = .pointer (some q) := by
  obtain ⟨cs, h3, _⟩ := elemD h h0 h1
  obtain ⟨q, hq, _⟩ := h3 w (Mono.refl w)
  rw [hq]
  exact ⟨by simp [addP, Addr.add], _, rfl⟩
theorem run_indexAddrV (S : Sta n W F b E g w s a) {x i : Operand} {t : TypeId} {c : Cl} {k : Int} (ho : o.op = .indexAddr t x i) (r : RelC E g c (a.eval x)) (hk : a.eval i = .int .i64 k) (h : indexAddrV P b s t c k K) : ER P o a w E g K := by
  unfold indexAddrV at h
  split at h
  · rename_i m et ht
    split at h
    · rename_i ie l off hie
      obtain ⟨h0, h1, h⟩ := h
      obtain ⟨bb, hE, hx⟩ := r
      refine ⟨.pointer (some ((⟨bb, off, none⟩ : Addr).add (k.toNat * ie.size))), .c (.p l (off + k.toNat * ie.size)), ?_, ⟨bb, hE, ?_⟩, h⟩
      · simp [execOp, ho, hx, hk, Instr.indexAt, asIntOf, Instr.sureAddr, run_underlying ht, h0, h1, sizeOf, typeInfo, hie]
      · unfold Addr.add
        split
        · rename_i hz; simp [hz]
        · rfl
    · exact h.elim
  · rename_i et ht
    split at h
    · exact h.elim
    · rename_i ie hie
      split at h
      · rename_i e xs
        split at h
        · rename_i hs
          obtain ⟨h0, h1, h⟩ := h
          have r' : IsD e g (a.eval x) xs := r
          exact ⟨_, .c (.de e xs k 0), run_idx (r'.mono S.m) h0 h1 ho ht hie hs rfl hk, (show RelC E g (.de e xs k 0) _ from ⟨⟨h0, h1, Nat.zero_le _⟩, _, r', (elemP_ptr r' h0 h1).1.symm⟩), h⟩
        · exact h.elim
      · rename_i l off m
        obtain ⟨bb, c, hE, hc, hx⟩ := r
        obtain ⟨h0, h1, h⟩ := h
        refine ⟨.pointer (some ((⟨bb, off, none⟩ : Addr).add (k.toNat * ie.size))), .c (.p l (off + k.toNat * ie.size)), ?_, ⟨bb, hE, ?_⟩, h⟩
        · simp [execOp, ho, hx, hk, Instr.indexAt, asIntOf, run_underlying ht, h0, h1, sizeOf, typeInfo, hie]
        · unfold Addr.add
          split
          · rename_i hz; simp [hz]
          · rfl
      · obtain ⟨hE, _⟩ := r
        split at h
        · rename_i hob
          split at h
          · rename_i hs
            obtain ⟨h0, h1, h⟩ := h
            have hi := isD_sl (St_sl S hE hob)
            obtain ⟨q1, q2⟩ := elemP_ptr hi h0 h1
            exact ⟨_, .c (.oe _ _ k 0), run_idx hi h0 h1 ho ht hie hs rfl hk, (show RelC E g (.oe _ _ k 0) _ from ⟨_, hE, q1.symm, q2⟩), h⟩
          · exact h.elim
        · rename_i hob
          split at h
          · rename_i hs
            obtain ⟨h0, h1, h⟩ := h
            have hi := St_held S hE hob
            exact ⟨_, .c (.de _ _ k 0), run_idx (hi.mono S.m) h0 h1 ho ht hie hs rfl hk, (show RelC E g (.de _ _ k 0) _ from ⟨⟨h0, h1, Nat.zero_le _⟩, _, hi, (elemP_ptr hi h0 h1).1.symm⟩), h⟩
          · exact h.elim
        · exact h.elim
      · exact h.elim
  · exact h.elim
theorem run_part {f : Field} {us : List Value} {cs : List Cl} {r : S1} (hc : RelCs E g cs us) (hp : part1 P f.type cs f.offset = some r) : ∃ u, (part f.type us.toArray f.offset).run P w = .ok u w ∧ RelS E g r u := by
  unfold part1 at hp
  split at hp
  · cases hp
  · rename_i d hd
    split at hp
    · rename_i hr
      split at hp
      · rename_i ie hie
        split at hp
        · rename_i hle
          obtain rfl := Option.some.inj hp
          refine ⟨.agg ((us.drop f.offset).take ie.size).toArray, ?_, _, (hc.drop _).take _, rfl⟩
          have hagg : (isAgg f.type).run P w = .ok true w := by
            unfold isAgg
            rw [Sem.run_bind, run_underlying hd w]
            cases d <;> simp_all
          have : (us.toArray.extract f.offset (f.offset + ie.size)) = ((us.drop f.offset).take ie.size).toArray := by rw [List.extract_toArray, List.extract_eq_take_drop, Nat.add_sub_cancel_left]
          unfold part
          rw [Sem.run_bind, hagg]
          simp only [Result.andThen_ok, if_true]
          simp [sizeOf, typeInfo, hie, go_sem]
        · cases hp
      · cases hp
    · rename_i hr
      split at hp
      · rename_i c hcc
        obtain rfl := Option.some.inj hp
        obtain ⟨u, h1, h2⟩ := hc.get hcc
        refine ⟨u, ?_, h2⟩
        have hagg : (isAgg f.type).run P w = .ok false w := by
          unfold isAgg
          rw [Sem.run_bind, run_underlying hd w]
          cases d <;> simp_all
        have h1' : us.toArray[f.offset]? = some u := by simpa using h1
        unfold part
        rw [Sem.run_bind, hagg]
        simp [h1', go_sem]
      · cases hp
theorem run_field {t : TypeId} {x : Operand} {j : Nat} {cs : List Cl} {f : Field} {r : S1} (ho : o.op = .field t x j) (hx : RelV E g (.v (.agg cs)) (a.eval x)) (hf : fieldOf P t j = some f) (hp : part1 P f.type cs f.offset = some r) (h : K (.v r)) : ER P o a w E g K := by
  obtain ⟨us, hc, hx⟩ := hx
  obtain ⟨u, h1, h2⟩ := run_part (w := w) hc hp
  unfold fieldOf at hf
  split at hf
  · rename_i fs ht
    refine ⟨u, .v r, ?_, h2, h⟩
    simp [execOp, ho, hx, Instr.field, run_underlying ht, hf, asAgg, h1]
  · cases hf
theorem slice_isD {e : Ty} {v : Value} {xs : List e.den} {l h : Int} (hx : IsD e w v xs) (hl : 0 ≤ l) (hlh : l ≤ h) (hh : h ≤ xs.length) : IsD e w (sliceV e.size v l h) ((xs.drop l.toNat).take (h.toNat - l.toNat)) := by
  letI := e.rep
  have hsz : GoRep.size e.den = e.size := Ty.rep_size e
  have := Is.slice (α := e.den) hx hl hlh hh
  rw [hsz] at this; exact this
theorem slice_run {e : Ty} {x : Operand} {lo hi : Option Operand} {t et : TypeId} {v : Value} {xs : List e.den} {l h : Int} {ie : TypeInfo} (hx' : IsD e w v xs) (hl : 0 ≤ l) (hlh : l ≤ h) (hh : h ≤ xs.length) (ho : o.op = .slice t x lo hi none)
    (ht : P.underlying t = some (.slice et)) (hi' : P.info? et = some ie) (hs : Nat.beq e.size ie.size = true) (hx : a.eval x = v) (h1 : (lo = none ∧ l = 0) ∨ ∃ y, lo = some y ∧ a.eval y = .int .i64 l) (h2 : (hi = none ∧ h = xs.length) ∨ ∃ y, hi = some y ∧ a.eval y = .int .i64 h) :
    (execOp a.eval o).run P w = .ok (.value (sliceV e.size v l h)) w := by
  letI := e.rep
  have hsz : GoRep.size e.den = e.size := Ty.rep_size e
  have := X_slice (α := e.den) (P := P) (ρ := a.eval) hx' hl hlh hh ho ht (by rw [hi', hsz]; exact congrArg some (Nat.eq_of_beq_eq_true hs).symm) hx h1 h2
  rw [hsz] at this; exact this
/-- What a bound is. -/
def BoundIs (a : Act) (q : Option Operand) (l : Option Int) : Prop := (q = none ∧ l = none) ∨ ∃ y n, q = some y ∧ l = some n ∧ a.eval y = .int .i64 n
theorem BoundIs.get {q : Option Operand} {l : Option Int} {m : Int} (h : BoundIs a q l) : (q = none ∧ boundV l m = m) ∨ ∃ y, q = some y ∧ a.eval y = .int .i64 (boundV l m) := by
  rcases h with ⟨rfl, rfl⟩ | ⟨y, n, rfl, rfl, h⟩
  · exact .inl ⟨rfl, rfl⟩
  · exact .inr ⟨y, rfl, h⟩
theorem run_sliceK (S : Sta n W F b E g w s a) {x : Operand} {t : TypeId} {c : Cl} {qlo qhi : Option Operand} {lo hi : Option Int} (ho : o.op = .slice t x qlo qhi none) (r : RelC E g c (a.eval x)) (h1 : BoundIs a qlo lo) (h2 : BoundIs a qhi hi) (h : sliceK P b s t c lo hi K) : ER P o a w E g K := by
  unfold sliceK at h
  split at h
  · rename_i ht
    split at h
    · rename_i z
      obtain ⟨hl, hlh, hh, h⟩ := h
      obtain ⟨hx, hz⟩ := r
      refine ⟨_, .str _, X_slice_str hl hlh hh ho ht hx h1.get h2.get, ⟨rfl, ?_⟩, h⟩
      have hz' : z.size ≤ maxLen := hz
      show (z.extract _ _).size ≤ maxLen
      rw [ByteArray.size_extract]; omega
    · exact h.elim
  · rename_i et ht
    split at h
    · exact h.elim
    · rename_i ie hie
      split at h
      · rename_i e xs
        split at h
        · rename_i hs
          obtain ⟨hl, hlh, hh, h⟩ := h
          have r' : IsD e g (a.eval x) xs := r
          exact ⟨_, .c (.d e _), slice_run (r'.mono S.m) hl hlh hh ho ht hie hs rfl h1.get h2.get, slice_isD r' hl hlh hh, h⟩
        · exact h.elim
      · obtain ⟨hE, _⟩ := r
        split at h
        · rename_i hob
          split at h
          · rename_i hs
            obtain ⟨hl, hlh, hh, h⟩ := h
            have hi := isD_sl (St_sl S hE hob)
            obtain ⟨q, m, cc, hq, _⟩ := isD_slice (slice_isD hi hl hlh hh)
            exact ⟨_, .c (.os _ _ _ _), slice_run hi hl hlh hh ho ht hie hs rfl h1.get h2.get, (show RelC E g (.os _ _ _ _) _ from ⟨_, hE, rfl, q, m, cc, hq⟩), h⟩
          · exact h.elim
        · rename_i hob
          split at h
          · rename_i hs
            obtain ⟨hl, hlh, hh, h⟩ := h
            have hi := St_held S hE hob
            exact ⟨_, .c (.d _ _), slice_run (hi.mono S.m) hl hlh hh ho ht hie hs rfl h1.get h2.get, slice_isD hi hl hlh hh, h⟩
          · exact h.elim
        · exact h.elim
      · exact h.elim
  · rename_i m et ht
    split at h
    · exact h.elim
    · rename_i ie hie
      split at h
      · rename_i l off
        obtain ⟨hmx, hl, hlm, hlh, hh, h⟩ := h
        obtain ⟨bb, hE, hx⟩ := r
        have hb : (Instr.sliceBounds false m m (qlo.map a.eval) (qhi.map a.eval) none).run P w = .ok ((boundV lo 0).toNat, (boundV hi m).toNat, m) w := by
          have g1 := h1.get (m := 0)
          have g2 := h2.get (m := (m : Int))
          have e0 : 0 ≤ boundV hi m := by omega
          rcases g1 with ⟨rfl, e1⟩ | ⟨y, rfl, hy⟩ <;> rcases g2 with ⟨rfl, e2⟩ | ⟨z, rfl, hz⟩ <;>
            simp_all [Instr.sliceBounds, Instr.sliceBound, asIntOf] <;> omega
        have hne : ¬ m = (boundV lo 0).toNat := by omega
        refine ⟨.slice (some ((⟨bb, off, none⟩ : Addr).add ((boundV lo 0).toNat * ie.size))) ((boundV hi m).toNat - (boundV lo 0).toNat) (m - (boundV lo 0).toNat), .c (.sc l _ _), ?_, ⟨bb, m - (boundV lo 0).toNat, hE, ⟨by omega, by unfold maxLen; omega⟩, ?_⟩, h⟩
        · simp [execOp, ho, hx, Instr.sliceAt, Instr.sureAddr, run_underlying ht, hb, sizeOf, typeInfo, hie, hne]
        · congr 2
          unfold Addr.add
          split
          · rename_i hz; simp [hz]
          · rfl
      · exact h.elim
  · exact h.elim
theorem run_index {x i : Operand} {t : TypeId} {z : ByteArray} {k : IntKind} {m : Int} (ho : o.op = .index t x i) (ht : P.underlying t = some .string) (hx : a.eval x = .string z) (hi : a.eval i = .int k m) (h0 : 0 ≤ m) (h1 : m < z.size) (h : K (.k (.int .u8 ((byteAt z m).toNat : Int)))) : ER P o a w E g K := by
  have hlt : m.toNat < z.size := by omega
  have hb : z[m.toNat]? = some z[m.toNat] := by simp [hlt]
  refine ⟨.int .u8 (byteAt z m).toNat, _, ?_, relV_mk ?_, h⟩
  · simp [execOp, ho, Instr.index, hx, hi, asIntOf, run_underlying ht, h0, byteAt, hb]
  · have h2 : (byteAt z m).toNat < 256 := UInt8.toNat_lt _
    show (0 : Int) ≤ ((byteAt z m).toNat : Int) ∧ ((byteAt z m).toNat : Int) ≤ 255
    omega
/-- The cells laid over others. -/
theorem setCs_rel {l : List Cl} {vs : List Value} {cs : List Cl} {us : List Value} {off : Nat} (hc : RelCs E g cs us) (hv : RelCs E g l vs) : RelCs E g (setCs cs off l) (us.take off ++ (vs ++ us.drop (off + vs.length))) := by
  unfold setCs
  rw [hv.length]
  exact (hc.take off).app (hv.app (hc.drop _))
end
end Go.Lm

/- What is reckoned holds: what is written, what is new. General: no program in sight. -/
namespace Go.Lm
open Go Go.RowKit
section
variable {X : Vx} {n : Nat} {W : Base} {F : List Atom} {b : Bs} {E : Env} {g w : World} {s : Ov} {a : Act} {o : Oper}
theorem run_storeV (S : Sta n W F b E g w s a) {t : TypeId} {x y : Operand} {c : Cl} {v : S1} {K : Ov → Prop} (ho : o.op = .store t x y) (r : RelC E g c (a.eval x)) (rv : RelV E g (.v v) (a.eval y)) (h : storeV X.P b s t c v K) :
    ∃ w' s', (execOp a.eval o).run X.P w = .ok .skip w' ∧ Sta n W F b E g w' s' a ∧ K s' := by
  have hv : RelCs E g v.cells (a.eval y).cells.toList := RelS.cells rv
  have hone : (a.eval y).cells.toList.all (·.oneCell') = true := List.all_eq_true.2 hv.one
  unfold storeV at h
  split at h
  · exact h.elim
  · rename_i ie hie
    split at h
    · rename_i hsz
      have hlen : (a.eval y).cells.size = ie.size := by
        have := hv.length
        rw [Array.length_toList] at this
        rw [this]; exact Nat.eq_of_beq_eq_true hsz
      split at h
      · rename_i l off
        obtain ⟨bb, hE, hx⟩ := r
        split at h
        · rename_i ut cs hob
          split at h
          · rename_i hle
            obtain ⟨us, h1, h2, H⟩ := St_cells S hE hob
            have hl : off + (a.eval y).cells.size ≤ us.toArray.size := by
              rw [hlen, List.size_toArray, h1.length]; exact Nat.le_of_ble_eq_true hle
            have hr := run_store_row (P := X.P) (t := t) h2 (by rw [hie, hlen]; rfl) hone hl
            refine ⟨_, _, by simp [execOp, ho, hx]; rw [hr]; rfl, S.back hE _ (Mono.refl g) ?_, h⟩
            have H2 := SL.updO0 H ((⟨rfl, h2.lt⟩ : Upd w bb (us.toArray.toList.take off ++ (a.eval y).cells.toList ++ us.toArray.toList.drop (off + (a.eval y).cells.size)).toArray _).updO h2)
            refine H2.weak fun k ⟨k1, k2, ap, q, s1, s2⟩ => ⟨k1, k2, ap, q, ⟨bb, _, hE, setCs_rel h1 hv, ?_⟩, s2⟩
            have s1' : k1 bb = some (.cells (us.toArray.toList.take off ++ (a.eval y).cells.toList ++ us.toArray.toList.drop (off + (a.eval y).cells.size)).toArray ut (0, 0)) := s1
            rw [s1']
            simp
          · exact h.elim
        · exact h.elim
      · rename_i l sz i off
        obtain ⟨u, hE, hx, _⟩ := r
        split at h
        · rename_i ut e xs cc hob
          split at h
          · rename_i hs
            obtain ⟨h0, h1, h⟩ := h
            rw [Bool.and_eq_true] at hs
            split at h
            · rename_i x' hof
              letI := e.rep
              have hesz : GoRep.size e.den = e.size := Ty.rep_size e
              have hcv : RelC E g cc (a.eval y) := rv
              have hlt : off < e.size := by have := hs.2; simpa using this
              have H := St_sl S hE hob
              obtain ⟨w', h2, H2⟩ := SL.slSet (α := e.den) (P := X.P) (t := t) (x' := x') H h0 h1 (off := off) (by rw [hesz]; exact hlt) hcv.one (one_cells hcv.one) (by rw [hie]; exact congrArg some (Nat.eq_of_beq_eq_true hsz).symm) fun vs hvs => by
                have e1 : ixD e xs i = xs[i.toNat]'(by omega) := by
                  unfold ixD
                  rw [List.getD_eq_getElem?_getD, List.getElem?_eq_getElem (by omega)]; rfl
                rw [← e1] at hvs
                obtain ⟨h4, _⟩ := rel_cells E g e hvs
                obtain ⟨u1, u2, e2, h5, h6⟩ := of_cells e hof (h4.set off hcv)
                rw [e2, show u2 = [] from h6, List.append_nil]; exact h5
              rw [hesz, Nat.eq_of_beq_eq_true hs.1] at h2
              refine ⟨w', _, by simp [execOp, ho, hx, h2], S.back hE _ (Mono.refl g) ?_, h⟩
              exact H2.weak fun k ⟨k1, k2, ap, q, s1, s2⟩ => ⟨k1, k2, ap, q, ⟨u, hE, s1⟩, s2⟩
            · exact h.elim
          · exact h.elim
        · exact h.elim
      · exact h.elim
    · exact h.elim
theorem at_end (S : Sta n W F b E g w s a) (v : Value) : (E ++ [v])[s.n]? = some v := by rw [← S.len]; simp
/-! ### New objects -/
theorem run_alloc (S : Sta n W F b E g w s a) {t : TypeId} {z : List Cl} {K : SV → Ov → Prop} (ho : o.op = .alloc t) (hz : zeroCs X.P t = some z) (h : K (.c (.p s.n 0)) (s.new (.cells t z))) :
    ∃ v w', (execOp a.eval o).run X.P w = .ok (.value v) w' ∧ Out n W F b E g a K v w' := by
  unfold zeroCs at hz
  split at hz
  · rename_i i hi
    split at hz
    · rename_i z0 hz0
      have hr : (execOp a.eval o).run X.P w = .ok (.value (ptr w.heap.size 0)) (w.alloc (.cells z0.cells t)) := X_alloc ho hi hz0
      have hc : RelCs (E ++ [ptr w.heap.size 0]) g z z0.cells.toList := constCs_ok hz
      refine ⟨_, _, hr, _, g, _, _, EnvLe.app E [ptr w.heap.size 0], Mono.refl g, S.new (v := ptr w.heap.size 0) (Mono.refl g) ?_, (show RelV _ g (.c (.p s.n 0)) _ from ⟨w.heap.size, at_end S _, rfl⟩), h⟩
      have H := S.sat.sl.new (New.mk' w (.cells z0.cells t))
      exact H.weak fun k ⟨k1, k2, ap, q, s1, s2⟩ => ⟨k1, k2, ap, q, ⟨w.heap.size, z0.cells.toList, at_end S _, hc, by have s1' : k1 w.heap.size = some (.cells z0.cells t (0, 0)) := s1; rw [s1']⟩, s2⟩
    · cases hz
  · cases hz
theorem bldOf_ok {q : Option (TypeId × TypeId)} {t e : TypeId} {z : List Cl} (h : bldOf q t z = some e) : z = [.k (.pointer none), .k (.slice none 0 0)] := by
  unfold bldOf at h
  split at h
  · rfl
  · cases h
theorem run_alloc_b (S : Sta n W F b E g w s a) {t e : TypeId} {z : List Cl} {K : SV → Ov → Prop} (ho : o.op = .alloc t) (hz : zeroCs X.P t = some z) {q : Option (TypeId × TypeId)} (hb : bldOf q t z = some e) (h : K (.c (.p s.n 0)) (s.new (.ab (.bld t e [])))) :
    ∃ v w', (execOp a.eval o).run X.P w = .ok (.value v) w' ∧ Out n W F b E g a K v w' := by
  obtain rfl := bldOf_ok hb
  unfold zeroCs at hz
  split at hz
  · rename_i i hi
    split at hz
    · rename_i z0 hz0
      have hr : (execOp a.eval o).run X.P w = .ok (.value (ptr w.heap.size 0)) (w.alloc (.cells z0.cells t)) := X_alloc ho hi hz0
      have hc : RelCs (E ++ [ptr w.heap.size 0]) g [.k (.pointer none), .k (.slice none 0 0)] z0.cells.toList := constCs_ok hz
      have hc2 : z0.cells = #[.pointer none, .slice none 0 0] := by
        obtain ⟨u, r, e1, ⟨e2, _⟩, u2, r2, e3, ⟨e4, _⟩, e5⟩ := hc
        have e5 : r2 = [] := e5
        subst e2 e4 e5 e3
        exact Array.toList_inj.1 e1
      refine ⟨_, _, hr, _, g, _, _, EnvLe.app E [ptr w.heap.size 0], Mono.refl g, S.new (v := ptr w.heap.size 0) (Mono.refl g) ?_, (show RelV _ g (.c (.p s.n 0)) _ from ⟨w.heap.size, at_end S _, rfl⟩), h⟩
      have H := S.sat.sl.new (New.mk' w (.cells z0.cells t))
      rw [hc2] at H ⊢
      have H2 := @SL.slNil _ _ _ _ Ty.u8.den Ty.u8.rep e H
      have H3 := (H2.to [1, 0]).addPure (p := ptr w.heap.size 0 = ptr w.heap.size 0 ∧ ((Value.pointer none = .pointer none) ∨ Value.pointer none = ptr w.heap.size 0)) ⟨rfl, .inl rfl⟩
      have H4 : SL W g _ (bldA t e [] (ptr w.heap.size 0) :: _) := SL.shutE (f := fun (q : Nat × Value × Value) => [pureA (ptr w.heap.size 0 = ptr q.1 0 ∧ (q.2.1 = .pointer none ∨ q.2.1 = ptr q.1 0)), Lm.blk q.1 #[q.2.1, q.2.2] t, slO .u8 e q.2.2 []]) (w.heap.size, .pointer none, .slice none 0 0) H3
      exact H4.weak fun k ⟨k1, k2, ap, q, s1, s2⟩ => ⟨k1, k2, ap, q, ⟨_, at_end S _, s1⟩, s2⟩
    · cases hz
  · cases hz
theorem run_box (S : Sta n W F b E g w s a) {t : TypeId} {x : Operand} {v : S1} {K : SV → Ov → Prop} (ho : o.op = .box t x) (r : RelV E g (.v v) (a.eval x)) (h : K (.c (.p s.n 0)) (s.new (.cells t v.cells))) :
    ∃ v w', (execOp a.eval o).run X.P w = .ok (.value v) w' ∧ Out n W F b E g a K v w' := by
  have hr : (execOp a.eval o).run X.P w = .ok (.value (ptr w.heap.size 0)) (w.alloc (.cells (a.eval x).cells t)) := X_box ho rfl
  have hc : RelCs (E ++ [ptr w.heap.size 0]) g v.cells (a.eval x).cells.toList := (RelS.cells r).mono (EnvLe.app E _) (Mono.refl g)
  refine ⟨_, _, hr, _, g, _, _, EnvLe.app E [ptr w.heap.size 0], Mono.refl g, S.new (v := ptr w.heap.size 0) (Mono.refl g) ?_, (show RelV _ g (.c (.p s.n 0)) _ from ⟨w.heap.size, at_end S _, rfl⟩), h⟩
  have H := S.sat.sl.new (New.mk' w (.cells (a.eval x).cells t))
  exact H.weak fun k ⟨k1, k2, ap, q, s1, s2⟩ => ⟨k1, k2, ap, q, ⟨w.heap.size, (a.eval x).cells.toList, at_end S _, hc, by have s1' : k1 w.heap.size = some (.cells (a.eval x).cells t (0, 0)) := s1; rw [s1']⟩, s2⟩

/-! ### Slices of one's own -/
instance oneCellsTy (e : Ty) : @OneCells e.den e.rep := @OneCells.mk e.den e.rep fun {g _ _} h => ((rel_cells ([] : Env) g e h).1).one
theorem rd_isD {e : Ty} {v : Value} {xs : List e.den} (h : IsD e g v xs) (m : Mono g w) : @Rd e.den e.rep g w v xs := @Is.rd e.den e.rep g w v xs h m
theorem rd_slO {e : Ty} {t : TypeId} {v : Value} {xs : List e.den} {l : List Atom} (H : SL W g w (slO e t v xs :: l)) : @Rd e.den e.rep g w v xs := by
  letI := e.rep
  exact SL.slRd0 (α := e.den) H
theorem asD_cast {e e' : Ty} {xs : List e'.den} {ys : List e.den} (h : asD e xs = some ys) : ∃ q : e' = e, ys = q ▸ xs := asD_some h
/-- What reads as a list now. -/
theorem listOf_rd (S : Sta n W F b E g w s a) {e : Ty} {x : Cl} {u : Value} {ys : List e.den} (r : RelC E g x u) (h : listOf b s e x = some ys) : @Rd e.den e.rep g w u ys ∧ IsD e w u ys := by
  unfold listOf at h
  split at h
  · cases h
    obtain ⟨rfl, _⟩ := r
    exact ⟨.inl ⟨rfl, rfl⟩, (@is_list e.den e.rep w _ _).2 (.inl ⟨rfl, rfl⟩)⟩
  · obtain ⟨q, hy⟩ := asD_some h
    subst q
    subst hy
    exact ⟨rd_isD r S.m, IsD.mono S.m r⟩
  · obtain ⟨hE, _⟩ := r
    split at h
    · rename_i hob
      obtain ⟨q, hy⟩ := asD_some h
      subst q
      subst hy
      exact ⟨rd_slO (St_sl S hE hob), isD_sl (St_sl S hE hob)⟩
    · rename_i hob
      obtain ⟨q, hy⟩ := asD_some h
      subst q
      subst hy
      exact ⟨rd_isD (St_held S hE hob) S.m, (St_held S hE hob).mono S.m⟩
    · cases h
  · cases h
/-- Where the result of an append of a string lies. -/
theorem append_where_str {P : Program} {w : World} (base : Nat) (t u ty e : TypeId) (i : TypeInfo) (ht : P.underlying t = some (.slice e)) (hu : P.underlying u = some .string) (hi : P.info? e = some i) (hz : i.zero = some (.int .u8 0))
    (hsize : i.size = 1) (hby : i.bytes = 1) (v : Value) (m : Nat) (xs : List Value) (hown : w.ownsRow base e 1 v m xs) (z : ByteArray)
    (h63 : m + z.size ≤ maxLen) (hbytes : m + z.size ≤ 140737488355328) {v' : Value} {w' : World} (hr : (Builtin.append_ #[t, u] ty #[v, .string z]).run P w = .ok v' w') :
    ∀ k, v'.ownBlock = some k → v.ownBlock = some k ∨ w.heap.size ≤ k := by
  have hxl : xs.length = m := by simpa using hown.1
  have hsmall : m + z.size ≤ 9223372036854775807 := by simp only [maxLen] at h63; omega
  rcases hown.2 with ⟨rfl, rfl⟩ | ⟨gb, cap, cur, rfl, hbg, hg, hnc, hcm, hcs, htake⟩
  · by_cases hm : z.size = 0
    · have hf := Go.Lib.run_firstCells_string (P := P) w 1 z
      rw [hm] at hf
      have hrun : (Builtin.append_ #[t, u] ty #[.slice none 0 0, .string z]).run P w = .ok (.slice none 0 0) w := by
        simp [Builtin.append_, run_underlying ht, run_underlying hu, sizeOf, typeInfo, hi, hsize, Builtin.lenOf, hm, hf]
      rw [hrun] at hr
      cases hr
      intro k hk
      simp [Value.ownBlock] at hk
    · rw [run_append_nil_string (P := P) w t u ty e i (.int .u8 0) ht hu hi hz z (by omega) (by omega) (by rw [hby]; omega)] at hr
      cases hr
      intro k hk
      have : w.heap.size = k := by simpa [Value.ownBlock] using hk
      exact .inr (by omega)
  · by_cases hroom : m + z.size ≤ cap
    · have hcs' : cur.size = cap := by simpa using hcs
      rw [Go.Lib.run_append_room_string (P := P) w t u ty e i ht hu hi hsize gb m cap cur hg z hroom (by omega)] at hr
      cases hr
      exact fun k hk => .inl hk
    · have holds : ∀ j u, xs[j]? = some u → w.cell? ((⟨gb, 0, none⟩ : Addr).add j) = some u := hown.cells (g := gb) rfl
      rw [Go.Lib.run_append_grow_string (P := P) w t u ty e i (.int .u8 0) ht hu hi hz ⟨gb, 0, none⟩ m cap xs (by rw [hsize]; simpa using hxl) holds z (by omega) (by omega) (by rw [hby]; exact growslice_fits (by omega) (by omega))] at hr
      cases hr
      intro k hk
      have : w.heap.size = k := by simpa [Value.ownBlock] using hk
      exact .inr (by omega)
theorem str_rows (g : World) : ∀ l : List UInt8, RelL g (l.map fun c => [Value.int .u8 (c.toNat : Int)]) l ∧ (l.map fun c => [Value.int .u8 (c.toNat : Int)]).flatten = l.map fun c => Value.int .u8 (c.toNat : Int)
  | [] => ⟨trivial, rfl⟩
  | c :: l => ⟨⟨rfl, (str_rows g l).1⟩, by rw [List.map_cons, List.flatten_cons, (str_rows g l).2]; rfl⟩
theorem run_appStrV (S : Sta n W F b E g w s a) {t t2 : TypeId} {x y : Operand} {cx cy : Cl} {K : SV → Ov → Prop} (ho : o.op = .call { callee := .builtin .append, args := #[x, y], argTypes := #[t, t2] }) (rx : RelC E g cx (a.eval x)) (ry : RelC E g cy (a.eval y)) (h : appStrV X b s t t2 cx cy K) :
    ∃ v w', (execOp a.eval o).run X.P w = .ok (.value v) w' ∧ Out n W F b E g a K v w' := by
  unfold appStrV at h
  split at h
  · rename_i et z ht hu
    obtain ⟨hy, hz⟩ := ry
    obtain ⟨hu8, h⟩ := if_ok h
    obtain ⟨ie, hie, hs1, hz0, hb1⟩ : ∃ ie, X.P.info? et = some ie ∧ ie.size = 1 ∧ ie.zero = some (.int .u8 0) ∧ ie.bytes = 1 := by
      unfold isU8 at hu8
      split at hu8
      · rename_i ie hie
        rw [Bool.and_eq_true] at hu8
        obtain ⟨h1, h2⟩ := hu8
        split at h2
        · rename_i hz0
          exact ⟨ie, hie, Nat.eq_of_beq_eq_true h1, hz0, Nat.eq_of_beq_eq_true h2⟩
        · cases h2
      · cases hu8
    have hzl : z.data.toList.length = z.size := by rw [Array.length_toList]; rfl
    have app : ∀ {xs : List UInt8} {v : Value} {L : List Atom}, SL W g w (slO .u8 et v xs :: L) → a.eval x = v → xs.length + z.size ≤ 140737488355328 →
        ∃ v' w', (execOp a.eval o).run X.P w = .ok (.value v') w' ∧ SL W g w' (slO .u8 et v' (xs ++ z.data.toList) :: L) ∧ ∃ q m c, v' = .slice q m c := fun {xs v L} H hx hb => by
      obtain ⟨cs, hrel, H1⟩ := SL.slO (α := UInt8) H
      have hrow := H1.row
      obtain ⟨v', w', hrun, hown', hgrow, _⟩ := Go.Lib.run_append_own_string (P := X.P) (w := w) W.n t t2 o.type et ie ht hu hie hz0 hs1 hb1 v xs.length cs.flatten hrow z (by unfold maxLen; omega) hb H.size
      have hwhere := append_where_str (P := X.P) W.n t t2 o.type et ie ht hu hie hz0 hs1 hb1 v xs.length cs.flatten hrow z (by unfold maxLen; omega) hb hrun
      have H2 := H1.grown hown' hgrow hwhere
      have hstr : Go.Lib.strCells z = z.data.toList.map fun c => Value.int .u8 (c.toNat : Int) := by
        simp [Go.Lib.strCells]
      have H3 : SL W g w' (slO .u8 et v' (xs ++ z.data.toList) :: L) := by
        refine SL.slI (α := UInt8) (cs := cs ++ (z.data.toList.map fun c => [Value.int .u8 (c.toNat : Int)])) (hrel.append (str_rows g _).1) ?_
        rw [List.flatten_append, (str_rows g _).2, List.length_append, hzl, ← hstr]
        exact H2
      obtain ⟨q, m, c, hv, _⟩ := slO_nil H3
      exact ⟨v', w', by simp [execOp, ho, resolve, invoke, builtin, hx, hy, hrun], H3, q, m, c, hv⟩
    split at h
    · obtain ⟨hb, h⟩ := h
      obtain ⟨hx, _⟩ := rx
      have H := SL.slNil UInt8 et S.sat.sl
      obtain ⟨v', w', hr, H', hv⟩ := app (xs := []) H hx (by simpa using hb)
      refine ⟨v', w', hr, E ++ [v'], g, _, _, EnvLe.app E _, Mono.refl g, S.new (v := v') (Mono.refl g) ?_, (show RelV _ g (.c (.o s.n)) v' from ⟨at_end S _, hv⟩), h⟩
      exact H'.weak fun k ⟨k1, k2, ap, q, s1, s2⟩ => ⟨k1, k2, ap, q, ⟨v', at_end S _, by simpa using s1⟩, s2⟩
    · obtain ⟨hE, _⟩ := rx
      split at h
      · rename_i l _ et' e' xs0 hob
        obtain ⟨hte, h⟩ := if_ok h
        obtain rfl := Nat.eq_of_beq_eq_true hte
        split at h
        · rename_i xs hxs
          obtain ⟨hb, hK⟩ := h
          obtain ⟨q, hq⟩ := asD_some hxs
          subst q
          subst hq
          obtain ⟨v', w', hr, H', hv⟩ := app (St_sl S hE hob) rfl hb
          refine ⟨v', w', hr, E ++ [v'], g, _, _, EnvLe.app E _, Mono.refl g, S.move (v := v') hE (Mono.refl g) ?_, (show RelV _ g (.c (.o s.n)) v' from ⟨at_end S _, hv⟩), hK⟩
          exact H'.weak fun k ⟨k1, k2, ap, q, s1, s2⟩ => ⟨k1, k2, ap, q, ⟨v', at_end S _, s1⟩, s2⟩
        · exact h.elim
      · exact h.elim
    · exact h.elim
  · exact h.elim
theorem run_appendV (S : Sta n W F b E g w s a) {t t2 : TypeId} {x y : Operand} {cx cy : Cl} {K : SV → Ov → Prop} (ho : o.op = .call { callee := .builtin .append, args := #[x, y], argTypes := #[t, t2] }) (rx : RelC E g cx (a.eval x)) (ry : RelC E g cy (a.eval y)) (h : appendV X b s t t2 cx cy K) :
    ∃ v w', (execOp a.eval o).run X.P w = .ok (.value v) w' ∧ Out n W F b E g a K v w' := by
  unfold appendV at h
  split at h
  · exact h.elim
  · rename_i et e ie hel
    have hel' : X.P.underlying t = some (.slice et) ∧ X.P.info? et = some ie ∧ e.size = ie.size := by
      unfold elemT at hel
      split at hel
      · rename_i et' ht
        split at hel
        · rename_i ie' e' hie hty
          split at hel
          · rename_i hs
            cases hel
            exact ⟨ht, hie, Nat.eq_of_beq_eq_true hs⟩
          · cases hel
        · cases hel
      · cases hel
    obtain ⟨ht, hie, hsz⟩ := hel'
    split at h
    · rename_i htt
      obtain rfl := Nat.eq_of_beq_eq_true htt
      split at h
      · exact h.elim
      · rename_i ys hys
        obtain ⟨hrd, hisd⟩ := listOf_rd S ry hys
        letI := e.rep
        have hesz : GoRep.size e.den = e.size := Ty.rep_size e
        -- the append itself
        have app : ∀ {xs : List e.den} {v : Value} {L : List Atom}, SL W g w (slO e et v xs :: L) → a.eval x = v → appOk X et e = true → (xs.length + ys.length) * ie.bytes ≤ 140737488355328 → xs.length + ys.length ≤ 9223372036854775807 →
            ∃ v' w', (execOp a.eval o).run X.P w = .ok (.value v') w' ∧ SL W g w' (slO e et v' (xs ++ ys) :: L) ∧ ∃ q m c, v' = .slice q m c := fun {xs v L} H hx hok hb hm => by
          unfold appOk at hok
          rw [hie] at hok
          simp only [Bool.and_eq_true] at hok
          obtain ⟨h1, h2⟩ := hok
          cases hz : ie.zero with
          | none => rw [hz] at h2; cases h2
          | some z =>
            rw [hz] at h2
            obtain ⟨v', w', hr, H', _⟩ := SL.append (α := e.den) (P := X.P) (t := t) (ty := o.type) (bytes := ie.bytes) H hrd ht (by rw [hie, hesz, hsz]; simp [hz]) (by rw [hie]; simp [hz]; rw [hesz]; exact Nat.eq_of_beq_eq_true h2) (by rw [hesz]; simpa using h1) hb hm
            obtain ⟨q, m, c, hv, _⟩ := slO_nil H'
            exact ⟨v', w', by simp [execOp, ho, resolve, invoke, builtin, hx, hr], H', q, m, c, hv⟩
        split at h
        · obtain ⟨hok, hb, h⟩ := if_ok h
          obtain ⟨hx, _⟩ := rx
          have H := SL.slNil e.den et S.sat.sl
          have hlen := isD_len hisd
          obtain ⟨v', w', hr, H', hv⟩ := app (xs := []) H hx hok (by simpa using hb) (by simpa using hlen)
          refine ⟨v', w', hr, E ++ [v'], g, _, _, EnvLe.app E _, Mono.refl g, S.new (v := v') (Mono.refl g) ?_, (show RelV _ g (.c (.o s.n)) v' from ⟨at_end S _, hv⟩), h⟩
          exact H'.weak fun k ⟨k1, k2, ap, q, s1, s2⟩ => ⟨k1, k2, ap, q, ⟨v', at_end S _, by simpa using s1⟩, s2⟩
        · obtain ⟨hE, _⟩ := rx
          split at h
          · rename_i l _ et' e' xs0 hob
            split at h
            · rename_i hte
              obtain rfl := Nat.eq_of_beq_eq_true hte
              split at h
              · rename_i xs hxs
                obtain ⟨hok, hb, hm, h⟩ := if_ok h
                obtain ⟨q, hy⟩ := asD_some hxs
                subst q
                subst hy
                obtain ⟨v', w', hr, H', hv⟩ := app (St_sl S hE hob) rfl hok hb hm
                refine ⟨v', w', hr, E ++ [v'], g, _, _, EnvLe.app E _, Mono.refl g, S.move (v := v') hE (Mono.refl g) ?_, (show RelV _ g (.c (.o s.n)) v' from ⟨at_end S _, hv⟩), h⟩
                exact H'.weak fun k ⟨k1, k2, ap, q, s1, s2⟩ => ⟨k1, k2, ap, q, ⟨v', at_end S _, s1⟩, s2⟩
              · exact h.elim
            · exact h.elim
          · exact h.elim
        · exact h.elim
    · exact run_appStrV S ho rx ry h
end
end Go.Lm

/- What is reckoned holds: literals, conversions, calls. General: no program in sight. -/
namespace Go.Lm
open Go Go.RowKit
section
variable {X : Vx} {n : Nat} {W : Base} {F : List Atom} {b : Bs} {E : Env} {g w : World} {s : Ov} {a : Act} {o : Oper}
theorem fold_set : ∀ (vs : List Value) (k : Nat) (us : List Value) (off : Nat), off + k + vs.length ≤ us.length →
    (vs.zipIdx k).foldl (fun (q : Array Value) (p : Value × Nat) => q.setIfInBounds (off + p.2) p.1) us.toArray = (us.take (off + k) ++ (vs ++ us.drop (off + k + vs.length))).toArray
  | [], k, us, off, _ => by simp
  | v :: r, k, us, off, h => by
    have h' : off + k < us.length := by simp at h; omega
    rw [List.zipIdx_cons, List.foldl_cons]
    have e : us.toArray.setIfInBounds (off + k) v = (us.set (off + k) v).toArray := by simp
    show (r.zipIdx (k + 1)).foldl _ (us.toArray.setIfInBounds (off + k) v) = _
    rw [e, fold_set r (k + 1) (us.set (off + k) v) off (by simp at h ⊢; omega)]
    congr 1
    have h1 : (us.set (off + k) v).take (off + (k + 1)) = us.take (off + k) ++ [v] := by
      rw [show off + (k + 1) = off + k + 1 by omega, List.take_add_one, List.getElem?_set_self (by simpa using h'), List.take_set_of_le (by omega)]; simp
    have h2 : (us.set (off + k) v).drop (off + (k + 1) + r.length) = us.drop (off + k + (v :: r).length) := by
      rw [List.drop_set_of_lt (by omega)]
      congr 1
      simp; omega
    rw [h1, h2]; simp
inductive PartsR (E : Env) (g : World) (a : Act) : List (Nat × S1) → List (Nat × Operand) → Prop
  | nil : PartsR E g a [] []
  | cons {i : Nat} {v : S1} {x : Operand} {ps : List (Nat × S1)} {l : List (Nat × Operand)} (h : RelS E g v (a.eval x)) (k : PartsR E g a ps l) : PartsR E g a ((i, v) :: ps) ((i, x) :: l)
theorem partsV_ok (S : Sta n W F b E g w s a) : ∀ {l : List (Nat × Operand)} {ps : List (Nat × S1)}, partsV b s l = some ps → PartsR E g a ps l
  | [], ps, h => by
    obtain rfl : [] = ps := Option.some.inj h
    exact .nil
  | (i, x) :: r, ps, h => by
    unfold partsV at h
    split at h
    · rename_i v hv
      split at h
      · rename_i l hl
        obtain rfl : (i, v) :: l = ps := Option.some.inj h
        exact .cons (S.opd hv) (partsV_ok S hl)
      · cases h
    · cases h
theorem fillV_ok {place : Nat → Option (Nat × Nat)} : ∀ {ps : List (Nat × S1)} {l : List (Nat × Operand)} {cs cs' : List Cl} {us : List Value}, fillV place cs ps = some cs' → PartsR E g a ps l → RelCs E g cs us →
    ∃ us', Instr.fill place us.toArray (l.map fun q => (q.1, a.eval q.2)) = some us'.toArray ∧ RelCs E g cs' us'
  | [], _, cs, cs', us, h, .nil, hc => by
    obtain rfl : cs = cs' := Option.some.inj h
    exact ⟨us, rfl, hc⟩
  | (i, v) :: r, _, cs, cs', us, h, .cons (x := x) h2 h3, hc => by
    unfold fillV at h
    split at h
    · cases h
    · rename_i off size hp
      split at h
      · rename_i hsz
        split at h
        · rename_i hle
          have hv := RelS.cells h2
          have hl : (a.eval x).cells.size = size := by
            have := hv.length
            rw [Array.length_toList] at this
            rw [this]; exact Nat.eq_of_beq_eq_true hsz
          have hle' : off + size ≤ us.length := by rw [hc.length]; exact Nat.le_of_ble_eq_true hle
          obtain ⟨us', h4, h5⟩ := fillV_ok h h3 (setCs_rel (off := off) hc hv)
          refine ⟨us', ?_, h5⟩
          show Instr.fill place us.toArray ((i, a.eval x) :: _) = _
          unfold Instr.fill
          simp only [hp]
          have hc1 : ((a.eval x).cells.size != size || decide (off + (a.eval x).cells.size > us.toArray.size)) = false := by
            rw [hl]; simp; omega
          rw [if_neg (by simpa using hc1)]
          have e := fold_set (a.eval x).cells.toList 0 us off (by rw [Array.length_toList, hl]; omega)
          have e2 : (a.eval x).cells.zipIdx.foldl (fun (q : Array Value) (p : Value × Nat) => q.setIfInBounds (off + p.2) p.1) us.toArray = ((a.eval x).cells.toList.zipIdx 0).foldl (fun (q : Array Value) (p : Value × Nat) => q.setIfInBounds (off + p.2) p.1) us.toArray := by
            rw [← Array.foldl_toList, Array.toList_zipIdx]
          have e3 : (a.eval x).cells.zipIdx.foldl (fun cs (x : Value × Nat) => match x with | (c, j) => cs.setIfInBounds (off + j) c) us.toArray = (us.take off ++ ((a.eval x).cells.toList ++ us.drop (off + (a.eval x).cells.toList.length))).toArray := by
            rw [Nat.add_zero] at e
            exact e2.trans e
          rw [e3]; exact h4
        · cases h
      · cases h

theorem run_buildV {t : TypeId} {parts : Array (Nat × Operand)} {ps : List (Nat × S1)} {K : SV → Prop} (ho : o.op = .build t parts) (hp : PartsR E g a ps parts.toList) (h : buildV X.P t ps K) : ER X.P o a w E g K := by
  unfold buildV zeroCs at h
  split at h
  · exact h.elim
  · rename_i z hz
    split at hz
    · rename_i it hit
      split at hz
      · rename_i z0 hz0
        have hzc : RelCs E g z z0.cells.toList := constCs_ok hz
        have key : ∀ {place : Nat → Option (Nat × Nat)} {cs : List Cl}, fillV place z ps = some cs → ∃ us', Instr.fill place z0.cells (parts.toList.map fun q => (q.1, a.eval q.2)) = some us'.toArray ∧ RelCs E g cs us' := fun {place cs} hf => by
          have := fillV_ok hf hp hzc
          simpa using this
        have hmap : (parts.map fun (i, x) => (i, a.eval x)).toList = parts.toList.map fun q => (q.1, a.eval q.2) := by rw [Array.toList_map]
        split at h
        · rename_i fs hu
          split at h
          · rename_i places hpl
            split at h
            · rename_i cs hf
              obtain ⟨us', h1, h2⟩ := key hf
              refine ⟨.agg us'.toArray, .v (.agg cs), ?_, ⟨us', h2, rfl⟩, h⟩
              have hb : X.P.built t (parts.map fun (i, x) => (i, a.eval x)).toList = some us'.toArray := by
                rw [hmap]
                unfold Program.built
                simp only [hit, hu, hz0, hpl]
                exact h1
              simp only [execOp, ho, Sem.run_bind, run_build w t _ _ hb, Result.andThen_ok]
              rfl
            · exact h.elim
          · exact h.elim
        · rename_i m e hu
          split at h
          · rename_i ie hie
            split at h
            · rename_i cs hf
              obtain ⟨us', h1, h2⟩ := key hf
              refine ⟨.agg us'.toArray, .v (.agg cs), ?_, ⟨us', h2, rfl⟩, h⟩
              have hb : X.P.built t (parts.map fun (i, x) => (i, a.eval x)).toList = some us'.toArray := by
                rw [hmap]
                unfold Program.built
                simp only [hit, hu, hz0, hie]
                exact h1
              simp only [execOp, ho, Sem.run_bind, run_build w t _ _ hb, Result.andThen_ok]
              rfl
            · exact h.elim
          · exact h.elim
        · exact h.elim
      · cases hz
    · cases hz
theorem strsOf_ok : ∀ {off m : Nat} {cs : List Cl} {zs : List ByteArray} {us : List Value}, strsOf off m cs = some zs → RelCs E g cs us → zs.length = m ∧ ∀ (i : Nat) z, zs[i]? = some z → us[off + i]? = some (.string z) ∧ z.size ≤ maxLen
  | 0, 0, _, zs, _, h, _ => by
    simp only [strsOf, Option.some.injEq] at h
    subst h
    exact ⟨rfl, fun i z h => by simp at h⟩
  | 0, m + 1, c :: r, zs, us, h, ⟨u, q, e, h1, h2⟩ => by
    subst e
    unfold strsOf at h
    split at h
    · rename_i z
      split at h
      · rename_i l hl
        obtain rfl : z :: l = zs := Option.some.inj h
        obtain ⟨h3, h4⟩ := strsOf_ok hl h2
        refine ⟨by simp [h3], fun i y hy => ?_⟩
        cases i with
        | zero =>
          obtain rfl : z = y := by simpa using hy
          obtain ⟨rfl, hz⟩ := h1
          exact ⟨rfl, hz⟩
        | succ i =>
          obtain ⟨h5, h6⟩ := h4 i y (by simpa using hy)
          refine ⟨?_, h6⟩
          rw [show 0 + (i + 1) = (0 + i) + 1 by omega, List.getElem?_cons_succ]
          exact h5
      · cases h
    · cases h
  | off + 1, m, c :: r, zs, us, h, ⟨u, q, e, _, h2⟩ => by
    subst e
    obtain ⟨h3, h4⟩ := strsOf_ok (off := off) h h2
    refine ⟨h3, fun i y hy => ?_⟩
    rw [show off + 1 + i = (off + i) + 1 by omega, List.getElem?_cons_succ]
    exact h4 i y hy
  | 0, m + 1, [], _, _, h, _ => by cases h
  | off + 1, m, [], _, _, h, _ => by cases h
/-- Held from now on. -/
theorem holdCs_ok : ∀ {cs : List Cl} {us : List Value} {s : Ov} {g : World} {k : List Cl → Ov → Prop}, Sta n W F b E g w s a → RelCs E g cs us → holdCs b cs s k → ∃ g' s' cs', Mono g g' ∧ Sta n W F b E g' w s' a ∧ RelCs E g' cs' us ∧ k cs' s'
  | [], us, s, g, k, S, hc, h => ⟨g, s, [], Mono.refl g, S, hc, h⟩
  | c :: r, us, s, g, k, S, ⟨u, q, e, h1, h2⟩, h => by
    subst e
    unfold holdCs at h
    split at h
    · rename_i l
      have hE := h1.1
      split at h
      · rename_i t e xs hob
        letI := e.rep
        obtain ⟨g1, m1, H1, hi⟩ := SL.slHold0 (α := e.den) (St_sl S hE hob)
        have S1 : Sta n W F b E g1 w (s.setO l (.held t e xs)) a := S.back hE _ m1 (H1.weak fun k s2 => ⟨fun _ => none, k, fun _ => .inl rfl, rfl, (show (atomO E l (.held t e xs)).sat g1 _ from ⟨u, hE, hi⟩), s2⟩)
        obtain ⟨g2, s2, cs2, m2, S2, h3, h4⟩ := holdCs_ok S1 (h2.mono (EnvLe.refl E) m1) h
        exact ⟨g2, s2, _, m1.trans m2, S2, RelCs.cons (show RelC E g2 (.d e xs) u from IsD.mono m2 hi) h3, h4⟩
      · rename_i t e xs hob
        have hi := St_held S hE hob
        obtain ⟨g2, s2, cs2, m2, S2, h3, h4⟩ := holdCs_ok S h2 h
        exact ⟨g2, s2, _, m2, S2, RelCs.cons (show RelC E g2 (.d e xs) u from IsD.mono m2 hi) h3, h4⟩
      · exact h.elim
    · rename_i l off m
      obtain ⟨bb, c, hE, hmc, hu⟩ := h1
      split at h
      · rename_i t cs0 hob
        split at h
        · rename_i zs hzs
          obtain ⟨us0, hr, _, H⟩ := St_cells S hE hob
          obtain ⟨hlen, hcell⟩ := strsOf_ok hzs hr
          obtain ⟨g1, m1, H1, hg⟩ := SL.hold0 H
          have S1 : Sta n W F b E g1 w (s.setO l .gone) a := S.back hE .gone m1 (H1.weak fun k s2 => ⟨fun _ => none, k, fun _ => .inl rfl, rfl, trivial, s2⟩)
          have hi : IsD .str g1 u zs := by
            refine (is_list (α := ByteArray)).2 ?_
            refine .inr ⟨⟨bb, off, none⟩, c, by rw [hu, hlen], by rw [hlen]; exact hmc.1, hmc.2, fun i x hx => ⟨[.string x], fun j v hj => ?_, rfl, (hcell i x hx).2⟩⟩
            match j, hj with
            | 0, hj =>
              obtain rfl : v = .string x := by simpa using hj.symm
              have e1 : (Addr.mk bb off none).add (i * GoRep.size ByteArray + 0) = ⟨bb, off + i, none⟩ := by simp [Addr.add, GoRep.size]
              rw [e1, hg]
              simpa using (hcell i x hx).1
            | j + 1, hj => simp at hj
          obtain ⟨g2, s2, cs2, m2, S2, h3, h4⟩ := holdCs_ok S1 (h2.mono (EnvLe.refl E) m1) h
          exact ⟨g2, s2, _, m1.trans m2, S2, RelCs.cons (show RelC E g2 (.d .str zs) u from IsD.mono m2 hi) h3, h4⟩
        · exact h.elim
      · exact h.elim
    · obtain ⟨g2, s2, cs2, m2, S2, h3, h4⟩ := holdCs_ok S h2 h
      exact ⟨g2, s2, _, m2, S2, RelCs.cons (h1.mono (EnvLe.refl E) m2) h3, h4⟩
theorem ofAll_ok {e : Ty} : ∀ (m : Nat) {cs : List Cl} {us : List Value} {xs : List e.den}, ofAll e m cs = some xs → RelCs E g cs us → ∃ css : List (List Value), css.flatten = us ∧ @RelL e.den e.rep g css xs ∧ xs.length = m
  | 0, [], us, xs, h, hc => by
    obtain rfl : [] = xs := Option.some.inj h
    exact ⟨[], (show us = [] from hc).symm, trivial, rfl⟩
  | 0, _ :: _, us, xs, h, hc => by cases h
  | m + 1, cs, us, xs, h, hc => by
    unfold ofAll at h
    split at h
    · rename_i x r hx
      split at h
      · rename_i ys hys
        obtain rfl : x :: ys = xs := Option.some.inj h
        obtain ⟨u1, u2, e1, h1, h2⟩ := of_cells e hx hc
        obtain ⟨css, h3, h4, h5⟩ := ofAll_ok m hys h2
        exact ⟨u1 :: css, by rw [List.flatten_cons, h3, e1], ⟨h1, h4⟩, by simp [h5]⟩
      · cases h
    · cases h
theorem rep_cells {α : Type} : ∀ (m : Nat) (z : List α) (i : Nat), i < m * z.length → (List.replicate m z).flatten[i]? = z[i % z.length]?
  | 0, z, i, h => by simp at h
  | m + 1, z, i, h => by
    rw [List.replicate_succ, List.flatten_cons]
    by_cases hi : i < z.length
    · rw [List.getElem?_append_left hi, Nat.mod_eq_of_lt hi]
    · rw [List.getElem?_append_right (by omega), rep_cells m z (i - z.length) (by rw [Nat.add_mul] at h; omega)]
      congr 1
      exact (Nat.mod_eq_sub_mod (by omega)).symm
theorem rep_array (m : Nat) (z : Array Value) (hz : 0 < z.size) : (Array.range (m * z.size)).map (fun i => z[i % z.size]!) = ((List.replicate m z.toList).flatten).toArray := by
  apply Array.ext_getElem?
  intro i
  by_cases hi : i < m * z.size
  · have := rep_cells m z.toList i (by simpa using hi)
    have hlt : i % z.size < z.size := Nat.mod_lt _ hz
    simp only [Array.length_toList, Array.getElem?_toList] at this
    simp only [List.getElem?_toArray, this]
    simp [hi, hlt]
  · rw [Array.getElem?_eq_none (by simp; omega), Array.getElem?_eq_none (by simp; omega)]
theorem relCs_rep {z : List Cl} {us : List Value} (h : RelCs E g z us) : ∀ m : Nat, RelCs E g (List.replicate m z).flatten (List.replicate m us).flatten
  | 0 => RelCs.nil
  | m + 1 => by
    rw [List.replicate_succ, List.replicate_succ, List.flatten_cons, List.flatten_cons]
    exact h.app (relCs_rep h m)
/-- A block that reads as a list. -/
theorem blk_sl {e : Ty} {et : TypeId} {bb m : Nat} {us : List Value} {xs : List e.den} {css : List (List Value)} {L : List Atom} (H : SL W g w (blk bb us.toArray et :: L)) (h1 : css.flatten = us) (h2 : @RelL e.den e.rep g css xs) (h3 : xs.length = m) (hm : m ≤ maxLen) :
    SL W g w (slO e et (.slice (some ⟨bb, 0, none⟩) m m) xs :: L) := by
  letI := e.rep
  have hlen := (RelL.length h2).2
  rw [h1] at hlen
  have H2 := SL.toRow (size := GoRep.size e.den) (cap := m) m H (Nat.le_refl _) hm (by rw [← h3]; simpa using hlen)
  subst h3
  refine SL.slI (α := e.den) (cs := css) h2 ?_
  have e1 : us.toArray.toList.take (xs.length * GoRep.size e.den) = css.flatten := by
    rw [h1, ← hlen]; simp
  rw [e1] at H2
  exact H2
end
end Go.Lm

/- What is reckoned holds: slices' literals, conversions. General: no program in sight. -/
namespace Go.Lm
open Go Go.RowKit
section
variable {X : Vx} {n : Nat} {W : Base} {F : List Atom} {b : Bs} {E : Env} {g w : World} {s : Ov} {a : Act} {o : Oper}
theorem elemT_ok {t et : TypeId} {e : Ty} {ie : TypeInfo} (h : elemT X t = some (et, e, ie)) : X.P.underlying t = some (.slice et) ∧ X.P.info? et = some ie ∧ e.size = ie.size := by
  unfold elemT at h
  split at h
  · rename_i et' ht
    split at h
    · rename_i ie' e' hie hty
      split at h
      · rename_i hs
        cases h
        exact ⟨ht, hie, Nat.eq_of_beq_eq_true hs⟩
      · cases h
    · cases h
  · cases h
theorem zeroCs_ok {P : Program} {t : TypeId} {z : List Cl} (h : zeroCs P t = some z) : ∃ i z0, P.info? t = some i ∧ i.zero = some z0 ∧ RelCs E g z z0.cells.toList := by
  unfold zeroCs at h
  split at h
  · rename_i i hi
    split at h
    · rename_i z0 hz0
      exact ⟨i, z0, hi, hz0, constCs_ok h⟩
    · cases h
  · cases h
theorem Le.new {w w' : World} {k : Nat} {x : Obj} (h : New w k x w') : Le w w' := h.le
theorem run_buildScV (S : Sta n W F b E g w s a) {t : TypeId} {m : Nat} {parts : Array (Nat × Operand)} {ps : List (Nat × S1)} {K : SV → Ov → Prop} (ho : o.op = .buildSlice t m parts) (hp : PartsR E g a ps parts.toList) (h : buildScV X s t m ps K) :
    ∃ v w', (execOp a.eval o).run X.P w = .ok (.value v) w' ∧ Out n W F b E g a K v w' := by
  unfold buildScV at h
  split at h
  · rename_i et ht
    split at h
    · rename_i ie z hie hz
      obtain ⟨i', z0, hie', hz0, hzc⟩ := zeroCs_ok (E := E) (g := g) hz
      rw [hie] at hie'
      obtain rfl := Option.some.inj hie'
      obtain ⟨hchk, h⟩ := if_ok h
      rw [Bool.and_eq_true, Bool.and_eq_true, Bool.and_eq_true] at hchk
      obtain ⟨⟨hc1, hc2, hc4⟩, hc3⟩ := hchk
      have hsm : m * ie.size ≤ 16777216 := Nat.le_of_ble_eq_true hc1
      have hpos : 0 < ie.size := by simpa using hc2
      have hm0 : 0 < m := by simpa using hc4
      have hzs : z0.cells.size = ie.size := by
        have := hzc.length
        rw [Array.length_toList] at this
        rw [this]; exact Nat.eq_of_beq_eq_true hc3
      split at h
      · exact h.elim
      · rename_i cs hf
        obtain ⟨us', h1, h2⟩ := fillV_ok hf hp (relCs_rep hzc m)
        have hmap : (parts.map fun (i, x) => (i, a.eval x)).toList = parts.toList.map fun q => (q.1, a.eval q.2) := by rw [Array.toList_map]
        have hr : (Instr.buildSlice t m (parts.map fun (i, x) => (i, a.eval x))).run X.P w = .ok (.slice (some ⟨w.heap.size, 0, none⟩) m m) (w.alloc (.cells us'.toArray et)) := by
          refine run_buildSlice w t et m _ us'.toArray ie z0 ht hie hz0 (by omega) (by have := Nat.mul_pos hm0 hpos; omega) ?_
          rw [hmap]
          have := rep_array m z0.cells (by omega)
          rw [hzs] at this
          rw [hzs, this]; exact h1
        have hrun : (execOp a.eval o).run X.P w = .ok (.value (.slice (some ⟨w.heap.size, 0, none⟩) m m)) (w.alloc (.cells us'.toArray et)) := by
          simp only [execOp, ho, Sem.run_bind, hr, Result.andThen_ok]
          rfl
        have H := S.sat.sl.new (New.mk' w (.cells us'.toArray et))
        have hml : m ≤ maxLen := by
          unfold maxLen
          have := Nat.le_mul_of_pos_right m hpos; omega
        refine ⟨_, _, hrun, E ++ [ptr w.heap.size 0], g, _, _, EnvLe.app E _, Mono.refl g, S.new (v := ptr w.heap.size 0) (Mono.refl g) ?_, (show RelV _ g (.c (.sc s.n 0 m)) _ from ⟨_, m, at_end S _, ⟨Nat.le_refl _, hml⟩, rfl⟩), h⟩
        exact H.weak fun k ⟨k1, k2, ap, q, s1, s2⟩ => ⟨k1, k2, ap, q, ⟨_, us', at_end S _, h2.mono (EnvLe.app E _) (Mono.refl g), s1⟩, s2⟩
    · exact h.elim
  · exact h.elim
theorem run_buildSliceV (S : Sta n W F b E g w s a) {t : TypeId} {m : Nat} {parts : Array (Nat × Operand)} {ps : List (Nat × S1)} {K : SV → Ov → Prop} (ho : o.op = .buildSlice t m parts) (hp : PartsR E g a ps parts.toList) (h : buildSliceV X b s t m ps K) :
    ∃ v w', (execOp a.eval o).run X.P w = .ok (.value v) w' ∧ Out n W F b E g a K v w' := by
  unfold buildSliceV at h
  split at h
  · exact run_buildScV S ho hp h
  · rename_i et e ie hel
    obtain ⟨ht, hie, hsz⟩ := elemT_ok hel
    split at h
    · exact h.elim
    · rename_i z hz
      obtain ⟨i', z0, hie', hz0, hzc⟩ := zeroCs_ok (E := E) (g := g) hz
      rw [hie] at hie'
      obtain rfl := Option.some.inj hie'
      obtain ⟨hchk, h⟩ := if_ok h
      rw [Bool.and_eq_true, Bool.and_eq_true] at hchk
      obtain ⟨⟨hc1, hc2⟩, hc3⟩ := hchk
      have hsm : m * ie.size ≤ 16777216 := Nat.le_of_ble_eq_true hc1
      have hzs : z0.cells.size = ie.size := by
        have := hzc.length
        rw [Array.length_toList] at this
        rw [this]; exact Nat.eq_of_beq_eq_true hc3
      have hm0 : m * ie.size = 0 → m = 0 := fun h0 => by
        rcases Nat.mul_eq_zero.1 h0 with h | h
        · exact h
        · rw [h] at hc2
          simpa using hc2
      split at h
      · exact h.elim
      · rename_i cs hf
        obtain ⟨us', h1, h2⟩ := fillV_ok hf hp (relCs_rep hzc m)
        have hmap : (parts.map fun (i, x) => (i, a.eval x)).toList = parts.toList.map fun q => (q.1, a.eval q.2) := by rw [Array.toList_map]
        have hr : (Instr.buildSlice t m (parts.map fun (i, x) => (i, a.eval x))).run X.P w = .ok (.slice (some ⟨w.heap.size, 0, none⟩) m m) (w.alloc (.cells us'.toArray et)) := by
          by_cases h0 : m * ie.size = 0
          · obtain rfl := hm0 h0
            have h1' : Instr.fill (fun i => some (i * ie.size, ie.size)) #[] (parts.toList.map fun q => (q.1, a.eval q.2)) = some us'.toArray := h1
            have hz0 : (Array.map (fun (_ : Nat) => (default : Value)) (Array.range 0)) = #[] := by simp
            simp [Instr.buildSlice, run_underlying ht, sizeOf, typeInfo, hie, newRow, hz0, h1']
          · refine run_buildSlice w t et m _ us'.toArray ie z0 ht hie hz0 (by omega) h0 ?_
            rw [hmap]
            have hpos : 0 < z0.cells.size := by
              rw [hzs]
              rcases Nat.eq_zero_or_pos ie.size with h | h
              · rw [h] at h0; simp at h0
              · exact h
            have := rep_array m z0.cells hpos
            rw [hzs] at this
            rw [hzs, this]; exact h1
        have hrun : (execOp a.eval o).run X.P w = .ok (.value (.slice (some ⟨w.heap.size, 0, none⟩) m m)) (w.alloc (.cells us'.toArray et)) := by
          simp only [execOp, ho, Sem.run_bind, hr, Result.andThen_ok]
          rfl
        obtain ⟨g', s', cs', m', S', h3, h⟩ := holdCs_ok S h2 h
        cases hxs : ofAll e m cs' with
        | none => rw [hxs] at h; exact h.elim
        | some xs =>
        rw [hxs] at h
        obtain ⟨css, h4, h5, h6⟩ := ofAll_ok m hxs h3
        have H := S'.sat.sl.new (New.mk' w (.cells us'.toArray et))
        have hml : m ≤ maxLen := by
          unfold maxLen
          rcases Nat.eq_zero_or_pos ie.size with h | h
          · have := hm0 (by rw [h]; rfl); omega
          · have := Nat.le_mul_of_pos_right m h; omega
        have H2 := blk_sl H h4 h5 h6 hml
        refine ⟨_, _, hrun, E ++ [.slice (some ⟨w.heap.size, 0, none⟩) m m], g', _, _, EnvLe.app E _, m', S'.new (v := .slice (some ⟨w.heap.size, 0, none⟩) m m) (Mono.refl g') ?_, (show RelV _ g' (.c (.o s'.n)) _ from ⟨at_end S' _, _, _, _, rfl⟩), h⟩
        exact H2.weak fun k ⟨k1, k2, ap, q, s1, s2⟩ => ⟨k1, k2, ap, q, ⟨_, at_end S' _, s1⟩, s2⟩

/-! ### Conversions -/
theorem run_conv_bytes {P : Program} {src dst e : TypeId} {z : ByteArray} (hs : P.underlying src = some .string) (hd : P.underlying dst = some (.slice e)) (he : P.underlying e = some (.int .u8)) (hz : z.size ≤ maxLen) :
    ∃ v w', (convert src dst (.string z)).run P w = .ok v w' ∧ Le w w' ∧ IsD .u8 (graft g w w') v z.data.toList := by
  have hr := run_bytes_of_string (P := P) w src dst e z hs hd he
  generalize hW : w.drew.alloc (.cells (bytesRow z (grownCap w z.size 0 e)) e ((bytesRow z (grownCap w z.size 0 e)).size, (bytesRow z (grownCap w z.size 0 e)).size + 1)) = w1 at hr
  have hle : Le w w1 := by rw [← hW]; exact (Le.drew w).trans (New.mk' w.drew _).le
  refine ⟨_, w1, hr, hle, ?_⟩
  have hlen : z.data.toList.length = z.size := by rw [Array.length_toList]; rfl
  refine (is_list (α := UInt8)).2 (.inr ⟨⟨w.heap.size, 0, none⟩, grownCap w z.size 0 e, by rw [hlen], by rw [hlen]; exact grownCap_ge w z.size 0 e, grownCap_le_maxLen w z.size 0 e (by unfold maxLen at hz ⊢; omega), fun i x hx => ⟨[.int .u8 x.toNat], fun j c hj => ?_, rfl⟩⟩)
  rw [Addr.add_mid, graft_new _ (Nat.le_refl _)]
  match j, hj with
  | 0, hj =>
    obtain rfl : c = .int .u8 x.toNat := by simpa using hj.symm
    have hi : i < z.data.toList.length := (List.getElem?_eq_some_iff.1 hx).1
    have hc : (bytesRow z (grownCap w z.size 0 e))[i]? = some (.int .u8 x.toNat) := by
      unfold bytesRow
      have hi2 : i < z.data.size := by simpa using hi
      rw [Array.getElem?_append_left (by simpa using hi2), Array.getElem?_map]
      have : z.data[i]? = some x := by simpa using hx
      rw [this]; rfl
    simp only [GoRep.size, Nat.mul_one, Nat.add_zero]
    have hh : w1.heap[w.heap.size]? = some (.cells (bytesRow z (grownCap w z.size 0 e)) e ((bytesRow z (grownCap w z.size 0 e)).size, (bytesRow z (grownCap w z.size 0 e)).size + 1)) := by rw [← hW]; exact heap_alloc_new w.drew _
    unfold World.cell?
    simp only [hh]
    rw [Nat.zero_add]
    exact hc
theorem run_convV (S : Sta n W F b E g w s a) {src dst : TypeId} {x : Operand} {c : SV} {K : SV → Ov → Prop} (ho : o.op = .convert src dst x) (r : RelV E g c (a.eval x)) (h : convV X b s src dst c K) :
    ∃ v w', (execOp a.eval o).run X.P w = .ok (.value v) w' ∧ Out n W F b E g a K v w' := by
  have same : ∀ {v : Value} {sv : SV}, (convert src dst (a.eval x)).run X.P w = .ok v w → RelV E g sv v → K sv s → ∃ v w', (execOp a.eval o).run X.P w = .ok (.value v) w' ∧ Out n W F b E g a K v w' := fun {v sv} h1 h2 h3 =>
    ⟨v, w, by simp [execOp, ho, h1], E, g, s, sv, EnvLe.refl E, Mono.refl g, S, h2, h3⟩
  unfold convV at h
  split at h
  · rename_i k1 k k' m hs hd
    obtain ⟨hx, hm⟩ := relV_int r
    have hr : (convert src dst (a.eval x)).run X.P w = .ok (.int k (k.wrap m)) w := by
      simp [convert, hx, run_underlying hs, run_underlying hd, Conv.intToInt]
    split at h
    · rename_i hk
      obtain rfl := IntKind.eq_of_beq hk
      rw [wrap_self hm] at hr
      exact same hr (relV_mk hm) h
    · exact same hr (relV_mk (wrap_inK _ _)) (h (wrap_inK _ _))
  · rename_i z hs hd
    obtain ⟨hx, hz⟩ := r
    refine same (v := .string z) (sv := .str z) (by simp [convert, hx, run_underlying hs, run_underlying hd]) ⟨rfl, hz⟩ h
  · rename_i k k1 m hs hd
    obtain ⟨hx, _⟩ := relV_int r
    obtain ⟨hl, h⟩ := h
    refine same (v := .string (Utf8.encode m)) (sv := .str (Utf8.encode m)) ?_ ⟨rfl, hl⟩ h
    simp [convert, hx, run_underlying hs, run_underlying hd, Conv.intToString]
  · rename_i e z hs hd
    obtain ⟨hx, hz⟩ := r
    split at h
    · rename_i he
      obtain ⟨v, w', h1, h2, h3⟩ := run_conv_bytes (P := X.P) (g := g) (w := w) hs hd he hz
      have m := graft_mono S.sat.sl.sees h2
      refine ⟨v, w', by simp [execOp, ho, hx, h1], E, graft g w w', s, _, EnvLe.refl E, m, ⟨S.size, S.defers, fun t u hu => (S.fr t u hu).mono (EnvLe.refl E) m, ⟨S.sat.sl.regraft h2, S.sat.len⟩, S.top⟩, (show RelV E _ (.c (.d .u8 z.data.toList)) v from h3), h⟩
    · exact h.elim
  · rename_i e y hs hd
    split at h
    · rename_i he
      split at h
      · rename_i l hl
        obtain ⟨_, hi⟩ := listOf_rd S r hl
        have hr := run_str_of (l := l) hi hs he hd
        refine same hr (sv := .str (bstr l)) ⟨rfl, ?_⟩ h
        have := isD_len hi
        show (bstr l).size ≤ maxLen
        have e2 : (bstr l).size = l.length := by simp [bstr, ByteArray.size]
        rw [e2]; exact this
      · exact h.elim
    · exact h.elim
  · exact h.elim
theorem run_mmV {mn : Bool} {x y : Operand} {t u : TypeId} {c d : SV} {K : SV → Prop} (ho : o.op = .call { callee := .builtin (if mn then .min else .max), args := #[x, y], argTypes := #[t, u] }) (rx : RelV E g c (a.eval x)) (ry : RelV E g d (a.eval y)) (h : mmV mn c d K) : ER X.P o a w E g K := by
  unfold mmV at h
  split at h
  · rename_i k m k' m'
    obtain ⟨hx, h1⟩ := relV_int rx
    obtain ⟨hy, h2⟩ := relV_int ry
    obtain ⟨hk, h0⟩ := if_ok h
    obtain rfl := IntKind.eq_of_beq hk
    have h3 : ∀ q, q = m ∨ q = m' → inK k q := fun q hq => by rcases hq with rfl | rfl <;> assumption
    cases mn
    · exact ⟨_, _, X_max ho hx hy, relV_mk (h3 _ (by omega)), h0⟩
    · exact ⟨_, _, X_min ho hx hy, relV_mk (h3 _ (by omega)), h0⟩
  · exact h.elim
end
end Go.Lm

/- What is reckoned holds: maps. General: no program in sight. -/
namespace Go.Lm
open Go Go.RowKit
section
variable {X : Vx} {n : Nat} {W : Base} {F : List Atom} {b : Bs} {E : Env} {g w : World} {s : Ov} {a : Act} {o : Oper}
theorem kkOk_ok {P : Program} {t : TypeId} {k : Kk} (h : kkOk P t k = true) : @KeyT P t k.den k.key := by
  unfold kkOk at h
  split at h
  · rename_i hu; exact keyT_int hu
  · rename_i hu; exact keyT_str hu
  · cases h
theorem kkOf_ok {P : Program} {t : TypeId} {k : Kk} (h : kkOf P t = some k) : kkOk P t k = true := by
  unfold kkOf at h
  unfold kkOk
  split at h
  · rename_i hu; cases h; rw [hu]
  · rename_i hu; cases h; rw [hu]
  · cases h
theorem keyOfCl_ok : ∀ {k : Kk} {c : Cl} {x : k.den} {u : Value}, keyOfCl k c = some x → RelC E g c u → u = @MKey.val k.den k.key x ∧ @MKey.ok k.den k.key x
  | .int, c, x, u, h, r => by
    dsimp only [keyOfCl] at h
    split at h
    · cases h
      obtain ⟨rfl, h2⟩ := r
      exact ⟨rfl, inK_wf.1 h2⟩
    · cases h
  | .str, c, x, u, h, r => by
    dsimp only [keyOfCl] at h
    split at h
    · cases h
      obtain ⟨rfl, h2⟩ := r
      exact ⟨rfl, h2⟩
    · cases h
theorem s1In_ok {e : Ty} {v : S1} {x : e.den} {u : Value} (h : s1In e v = true) (hu : RelCs E g v.cells u.cells.toList) (r : RelS E g v u) {cs : List Cl} (hcs : RelCs E g cs u.cells.toList) (ho : e.of cs = some (x, [])) : IsV g e u x := by
  obtain ⟨u1, u2, e1, h1, h2⟩ := of_cells e ho hcs
  obtain rfl : u2 = [] := h2
  rw [List.append_nil] at e1
  subst e1
  cases v with
  | agg l =>
    have h : e.row = true := h
    obtain ⟨us, _, rfl⟩ := r
    refine ⟨_, h1, ?_⟩
    rw [if_pos h]; rfl
  | c c =>
    have h : (!e.row) = true := h
    have hr : RelC E g c u := r
    refine ⟨_, h1, ?_⟩
    rw [if_neg (by simpa using h), one_cells hr.one]
theorem s1Of_ok {e : Ty} {x : e.den} {r : S1} {u : Value} (h : s1Of e x = some r) (hv : IsV g e u x) : RelS E g r u ∧ e.ok x := by
  obtain ⟨cs, h1, h2⟩ := hv
  obtain ⟨h3, h4⟩ := rel_cells E g e h1
  refine ⟨?_, h4⟩
  unfold s1Of at h
  split at h
  · rename_i hr
    rw [if_pos hr] at h2
    cases h
    exact ⟨cs, h3, h2⟩
  · rename_i hr
    rw [if_neg hr] at h2
    split at h
    · rename_i c hc
      cases h
      rw [hc, h2] at h3
      obtain ⟨u', r', e1, h5, h6⟩ := h3
      obtain rfl : u = u' := by simpa using (List.cons.inj e1).1
      exact h5
    · cases h
theorem dflV_ok {P : Program} {t : TypeId} {e : Ty} {x : e.den} (h : dflV P t e = some x) : ∃ z, (zeroValue t).run P w = .ok z w ∧ IsV g e z x := by
  unfold dflV at h
  split at h
  · rename_i i hi
    split at h
    · rename_i z hz
      split at h
      · rename_i hzo
        split at h
        · rename_i zl hzl
          split at h
          · rename_i y hy
            cases h
            have hc : RelCs ([] : Env) g zl z.cells.toList := constCs_ok hzl
            obtain ⟨u1, u2, e1, h1, h2⟩ := of_cells e hy hc
            obtain rfl : u2 = [] := h2
            rw [List.append_nil] at e1
            refine ⟨z, ?_, u1, h1, ?_⟩
            · simp [zeroValue, typeInfo, hi, hz, go_sem]
            · unfold zOk at hzo
              split at hzo
              · rename_i cs
                rw [if_pos hzo, ← e1]
                show Value.agg cs = .agg cs.toList.toArray
                simp
              · simp only [Bool.and_eq_true, Bool.not_eq_true'] at hzo
                rw [if_neg (by rw [hzo.1]; simp), ← e1, one_cells hzo.2]
          · cases h
        · cases h
      · cases h
    · cases h
  · cases h
theorem mapVs_find {k : Kk} {e : Ty} (x : k.den) : ∀ {l : List (k.den × Value)} {xs : List (k.den × e.den)}, MapVs g k e l xs → match @getK k.den k.key _ l x, k.get xs x with
    | some u, some y => IsV g e u y
    | none, none => True
    | _, _ => False
  | [], xs, h => by
    rw [show xs = [] from h]
    trivial
  | p :: l, xs, ⟨y, r, q, h1, h2⟩ => by
    letI := k.key
    subst q
    have ih := mapVs_find x h2
    have e1 : @getK k.den k.key _ (p :: l) x = if p.1 = x then some p.2 else @getK k.den k.key _ l x := by
      unfold getK
      rw [List.find?_cons]
      by_cases e : p.1 = x <;> simp [e]
    have e2 : k.get ((p.1, y) :: r) x = if p.1 = x then some y else k.get r x := by
      unfold Kk.get getK
      rw [List.find?_cons]
      by_cases e : p.1 = x <;> simp [e]
    rw [e1, e2]
    by_cases e : p.1 = x
    · rw [if_pos e, if_pos e]; exact h1
    · rw [if_neg e, if_neg e]; exact ih
theorem mapVs_del {k : Kk} {e : Ty} (x : k.den) : ∀ {l : List (k.den × Value)} {xs : List (k.den × e.den)}, MapVs g k e l xs → MapVs g k e (@delK k.den k.key _ l x) (k.del xs x)
  | [], xs, h => by
    rw [show xs = [] from h]; rfl
  | p :: l, xs, ⟨y, r, q, h1, h2⟩ => by
    letI := k.key
    subst q
    have ih := mapVs_del x h2
    unfold Kk.del delK at ih ⊢
    rw [List.filter_cons, List.filter_cons]
    by_cases e : p.1 = x
    · simp only [e, decide_true, Bool.not_true, Bool.false_eq_true, if_false]
      exact ih
    · simp only [e, decide_false, Bool.not_false, if_true]
      exact ⟨y, _, rfl, h1, ih⟩
theorem run_ifaceV {t : TypeId} {x : Operand} {c : Cl} {K : SV → Prop} (ho : o.op = .makeInterface t x) (rx : RelC E g c (a.eval x)) (h : ifaceV X.P t c K) : ER X.P o a w E g K := by
  unfold ifaceV at h
  split at h
  · exact h.elim
  · rename_i d hne hd
    refine ⟨.iface t (a.eval x), .c (.ifc t c), ?_, ⟨a.eval x, rx, rfl⟩, h⟩
    have : (Instr.makeInterface t (a.eval x)).run X.P w = .ok (.iface t (a.eval x)) w := by
      cases d <;> first | (exact (hne _ rfl).elim) | simp [Instr.makeInterface, run_underlying hd]
    simp [execOp, ho, this]
  · exact h.elim
theorem zeroV_ok {t : TypeId} {z : SV} (h : zeroV X.P t = some z) : ∃ v, (zeroValue t).run X.P w = .ok v w ∧ RelV E g z v := by
  unfold zeroV at h
  split at h
  · rename_i i hi
    split at h
    · rename_i z0 hz
      exact ⟨z0, by simp [zeroValue, typeInfo, hi, hz, go_sem], constV_ok h⟩
    · cases h
  · cases h
theorem run_assertV {t t0 : TypeId} {x : Operand} {c : Cl} {K : SV → Prop} (ho : o.op = .typeAssert x t0 t true) (rx : RelC E g c (a.eval x)) (h : assertV X.P t c K) : ER X.P o a w E g K := by
  unfold assertV at h
  split at h
  · exact h.elim
  · rename_i d hne hd
    have two : ∀ {z : S1} {v : Value} {q : Bool}, RelS E g z v → RelV E g (.tup [z, .c (.k (.bool q))]) (.tuple #[v, .bool q]) := fun {z v q} r => ⟨[v, .bool q], ⟨_, _, rfl, r, _, [], rfl, ⟨rfl, rfl⟩, rfl⟩, rfl⟩
    split at h
    · rename_i t' c'
      obtain ⟨v, h1, h2⟩ := rx
      split at h
      · rename_i ht
        obtain rfl := Nat.eq_of_beq_eq_true ht
        refine ⟨.tuple #[v, .bool true], _, ?_, two (z := .c c') h1, h⟩
        have : (Instr.typeAssert (.iface t' v) t0 t' true).run X.P w = .ok (.tuple #[v, .bool true]) w := by
          cases d <;> first | (exact (hne _ rfl).elim) | simp [Instr.typeAssert, run_underlying hd]
        simp [execOp, ho, h2, this]
      · rename_i ht
        have hne' : ¬ t' = t := fun e => ht (by subst e; simp)
        split at h
        · rename_i z hz
          obtain ⟨u, hu, hr⟩ := zeroV_ok (w := w) (E := E) (g := g) hz
          refine ⟨.tuple #[u, .bool false], _, ?_, two hr, h⟩
          have : (Instr.typeAssert (.iface t' v) t0 t true).run X.P w = .ok (.tuple #[u, .bool false]) w := by
            cases d <;> first | (exact (hne _ rfl).elim) | simp [Instr.typeAssert, run_underlying hd, hne', hu]
          simp [execOp, ho, h2, this]
        · exact h.elim
    · obtain ⟨hx, _⟩ := rx
      split at h
      · rename_i z hz
        obtain ⟨u, hu, hr⟩ := zeroV_ok (w := w) (E := E) (g := g) hz
        refine ⟨.tuple #[u, .bool false], _, ?_, two hr, h⟩
        have : (Instr.typeAssert .nilIface t0 t true).run X.P w = .ok (.tuple #[u, .bool false]) w := by
          cases d <;> first | (exact (hne _ rfl).elim) | simp [Instr.typeAssert, run_underlying hd, hu]
        simp [execOp, ho, hx, this]
      · exact h.elim
    · exact h.elim
  · exact h.elim
theorem run_makeMapV (S : Sta n W F b E g w s a) {t : TypeId} {K : SV → Ov → Prop} (ho : o.op = .makeMap t none) (h : makeMapV X s t K) : ∃ v w', (execOp a.eval o).run X.P w = .ok (.value v) w' ∧ Out n W F b E g a K v w' := by
  unfold makeMapV at h
  split at h
  · rename_i k et ht
    split at h
    · rename_i kk e hk he
      letI := kk.key
      refine ⟨_, _, X_makeMap ho, _, g, _, _, EnvLe.app E [ptr w.heap.size 0], Mono.refl g, S.new (v := ptr w.heap.size 0) (Mono.refl g) ?_, (show RelV _ g (.c (.m s.n)) _ from ⟨w.heap.size, at_end S _, rfl⟩), h⟩
      have H := S.sat.sl.mapNew (P := X.P) (k := k) (κ := kk.den) (New.mk' w (.map #[] 0))
      exact H.weak fun q ⟨k1, k2, ap, q2, s1, s2⟩ => ⟨k1, k2, ap, q2, ⟨w.heap.size, [], at_end S _, rfl, X.P, kkOf_ok hk, s1⟩, s2⟩
    · exact h.elim
  · exact h.elim
theorem run_lookupV (S : Sta n W F b E g w s a) {t : TypeId} {x y : Operand} {c : Bool} {mx ky : Cl} {K : SV → Prop} (ho : o.op = .lookup t x y c) (rx : RelC E g mx (a.eval x)) (ry : RelC E g ky (a.eval y)) (h : lookupV X b s t mx ky c K) : ER X.P o a w E g K := by
  unfold lookupV at h
  split at h
  · rename_i k et ht
    split at h
    · rename_i l
      obtain ⟨bb, hE, hx⟩ := rx
      split at h
      · rename_i k' kk e xs hob
        obtain ⟨hk, h5⟩ := if_ok h
        rw [Bool.and_eq_true] at hk
        obtain ⟨hk1, hk2⟩ := hk
        obtain rfl := Nat.eq_of_beq_eq_true hk1
        split at h5
        · rename_i z q hz hq
          have h6 := h5
          split at h6
          · rename_i r hr
            obtain ⟨m, h1, H⟩ := St_map S hE hob hk2
            letI := kk.key
            obtain ⟨hy, hok⟩ := keyOfCl_ok hq ry
            obtain ⟨zv, hzr, hzi⟩ := dflV_ok (w := w) (g := g) hz
            have hl := H.mapLook c (kkOk_ok hk2) ht hzr q hok
            have hf := mapVs_find (e := e) q h1
            have hv : IsV g e ((getK m q).getD zv) ((kk.get xs q).getD z) ∧ (getK m q).isSome = (kk.get xs q).isSome := by
              revert hf
              cases getK m q <;> cases kk.get xs q <;> intro hf
              · exact ⟨hzi, rfl⟩
              · exact hf.elim
              · exact hf.elim
              · exact ⟨hf, rfl⟩
            obtain ⟨h2, h3⟩ := s1Of_ok (E := E) hr hv.1
            have hK := h6 h3
            refine ⟨_, _, X_lookup ho hx hy hl, ?_, hK⟩
            cases c with
            | true =>
              refine ⟨[_, _], ⟨_, _, rfl, h2, _, [], rfl, ?_, rfl⟩, rfl⟩
              rw [hv.2]
              exact (show RelS E g (.c (.k (.bool _))) _ from ⟨rfl, rfl⟩)
            | false => exact h2
          · exact h6.elim
        · exact h5.elim
      · exact h.elim
    · exact h.elim
  · exact h.elim
theorem run_mapPutV (S : Sta n W F b E g w s a) {t : TypeId} {x y z : Operand} {mx ky : Cl} {v : S1} {K : Ov → Prop} (ho : o.op = .mapUpdate t x y z) (rx : RelC E g mx (a.eval x)) (ry : RelC E g ky (a.eval y)) (rz : RelS E g v (a.eval z)) (h : mapPutV X b s t mx ky v K) :
    ∃ w', (execOp a.eval o).run X.P w = .ok .skip w' ∧ ∃ g' s', Mono g g' ∧ Sta n W F b E g' w' s' a ∧ K s' := by
  unfold mapPutV at h
  split at h
  · rename_i k et ht
    split at h
    · rename_i l
      obtain ⟨bb, hE, hx⟩ := rx
      obtain ⟨g1, s1, cs, m1, S1, hcs, h⟩ := holdCs_ok S rz.cells h
      split at h
      · rename_i k' kk e xs hob
        obtain ⟨hk, h5⟩ := if_ok h
        simp only [Bool.and_eq_true] at hk
        obtain ⟨⟨hk1, hk2⟩, hk3⟩ := hk
        obtain rfl := Nat.eq_of_beq_eq_true hk1
        split at h5
        · rename_i q x' hq hof
          obtain ⟨hlen, h6⟩ := h5
          obtain ⟨m, h1, H⟩ := St_map S1 hE hob hk2
          letI := kk.key
          obtain ⟨hy, hok⟩ := keyOfCl_ok hq ry
          obtain ⟨w', hr, H2⟩ := H.mapPut (kkOk_ok hk2) ht (by rw [h1.length]; exact hlen) q hok (a.eval z)
          have hiv : IsV g1 e (a.eval z) x' := s1In_ok (E := E) hk3 (rz.cells.mono (EnvLe.refl E) m1) (rz.mono (EnvLe.refl E) m1) hcs hof
          have S2 : Sta n W F b E g1 w' (s1.setO l (.map k kk e (kk.put xs q x'))) a := S1.back hE _ (Mono.refl g1) (H2.weak fun q0 ⟨k1, k2, ap, q2, s1', s2⟩ => ⟨k1, k2, ap, q2, (show (atomO E l (.map k kk e (kk.put xs q x'))).sat g1 k1 from ⟨bb, putK m q (a.eval z), hE, ⟨x', kk.del xs q, rfl, hiv, mapVs_del q h1⟩, X.P, hk2, s1'⟩), s2⟩)
          exact ⟨w', X_mapUpdate ho hx hy rfl hr, g1, _, m1, S2, h6⟩
        · exact h5.elim
      · exact h.elim
    · exact h.elim
  · exact h.elim
end
end Go.Lm

/- What is reckoned holds: calls. General: no program in sight. -/
namespace Go.Lm
open Go Go.RowKit
def RelVs (E : Env) (g : World) : List SV → List Value → Prop
  | [], us => us = []
  | c :: l, us => ∃ u r, us = u :: r ∧ RelV E g c u ∧ RelVs E g l r
/-- A call, whatever is owned besides. -/
def WpW (W : Base) (P : Program) (f : FuncId) (args : List SV) (H : List HO) (Q : SV → List HO → Prop) : Prop :=
  ∀ (g w : World) (E : Env) (F : List Atom) (vs : List Value), Sat W E g w H F → RelVs E g args vs →
    Ret P f vs.toArray w fun v w' => ∃ E' g' sv H', EnvLe E E' ∧ Mono g g' ∧ Sat W E' g' w' H' F ∧ RelV E' g' sv v ∧ Q sv H'
/-- .. whatever it began in, if that has what I says (tables of the library's, say). -/
def Wp (I : Base → Prop) (P : Program) (f : FuncId) (args : List SV) (H : List HO) (Q : SV → List HO → Prop) : Prop := ∀ W, I W → WpW W P f args H Q
section
variable {W : Base} {F : List Atom} {E E' : Env} {g w : World}
/-! ### Other labels -/
def RenOk (r : Nat → Option Nat) (E E' : Env) : Prop := ∀ l l' v, r l = some l' → E[l]? = some v → E'[l']? = some v
mutual
theorem RelC.ren {r : Nat → Option Nat} (hr : RenOk r E E') : ∀ {c : Cl} {u : Value}, RelC E g c u → RelC E' g (c.ren r) u
  | .k _, _, h => h
  | .d _ _, _, h => h
  | .de _ _ _ _, _, h => h
  | .unk, _, h => h
  | .p l off, u, h => by
    have h1 := RelC.one h
    obtain ⟨b, h2, h3⟩ := h
    unfold Cl.ren
    cases hl : r l with
    | none => exact h1
    | some l' => exact ⟨b, hr _ _ _ hl h2, h3⟩
  | .o l, u, h => by
    have h1 := RelC.one h
    obtain ⟨h2, h3⟩ := h
    unfold Cl.ren
    cases hl : r l with
    | none => exact h1
    | some l' => exact ⟨hr _ _ _ hl h2, h3⟩
  | .os l sz lo hi, u, h => by
    have h1 := RelC.one h
    obtain ⟨v, h2, h3⟩ := h
    unfold Cl.ren
    cases hl : r l with
    | none => exact h1
    | some l' => exact ⟨v, hr _ _ _ hl h2, h3⟩
  | .oe l sz i off, u, h => by
    have h1 := RelC.one h
    obtain ⟨v, h2, h3⟩ := h
    unfold Cl.ren
    cases hl : r l with
    | none => exact h1
    | some l' => exact ⟨v, hr _ _ _ hl h2, h3⟩
  | .m l, u, h => by
    have h1 := RelC.one h
    obtain ⟨b, h2, h3⟩ := h
    unfold Cl.ren
    cases hl : r l with
    | none => exact h1
    | some l' => exact ⟨b, hr _ _ _ hl h2, h3⟩
  | .sc l off n, u, h => by
    have h1 := RelC.one h
    obtain ⟨b, c, h2, h3⟩ := h
    unfold Cl.ren
    cases hl : r l with
    | none => exact h1
    | some l' => exact ⟨b, c, hr _ _ _ hl h2, h3⟩
  | .fn f caps, _, ⟨us, h1, h2⟩ => ⟨us, RelCs.ren hr h1, h2⟩
  | .ifc t c, _, ⟨v, h1, h2⟩ => ⟨v, RelC.ren hr h1, h2⟩
theorem RelCs.ren {r : Nat → Option Nat} (hr : RenOk r E E') : ∀ {l : List Cl} {us : List Value}, RelCs E g l us → RelCs E' g (Cl.rens r l) us
  | [], _, h => h
  | _ :: _, _, ⟨u, q, e, h1, h2⟩ => ⟨u, q, e, RelC.ren hr h1, RelCs.ren hr h2⟩
end
theorem RelS.ren {r : Nat → Option Nat} (hr : RenOk r E E') : ∀ {x : S1} {u : Value}, RelS E g x u → RelS E' g (x.ren r) u
  | .c _, _, h => RelC.ren hr h
  | .agg _, _, ⟨us, h1, h2⟩ => ⟨us, RelCs.ren hr h1, h2⟩
theorem RelSs.ren {r : Nat → Option Nat} (hr : RenOk r E E') : ∀ {l : List S1} {us : List Value}, RelSs E g l us → RelSs E' g (S1.rens r l) us
  | [], _, h => h
  | _ :: _, _, ⟨u, q, e, h1, h2⟩ => ⟨u, q, e, RelS.ren hr h1, RelSs.ren hr h2⟩
theorem RelV.ren {r : Nat → Option Nat} (hr : RenOk r E E') : ∀ {x : SV} {u : Value}, RelV E g x u → RelV E' g (x.ren r) u
  | .v _, _, h => RelS.ren hr h
  | .tup _, _, ⟨us, h1, h2⟩ => ⟨us, RelSs.ren hr h1, h2⟩
  | .any, _, _ => trivial
theorem RelVs.ren {r : Nat → Option Nat} (hr : RenOk r E E') : ∀ {l : List SV} {us : List Value}, RelVs E g l us → RelVs E' g (l.map (·.ren r)) us
  | [], _, h => h
  | _ :: _, _, ⟨u, q, e, h1, h2⟩ => ⟨u, q, e, RelV.ren hr h1, RelVs.ren hr h2⟩
theorem atomO.ren {r : Nat → Option Nat} (hr : RenOk r E E') {l l' : Nat} (hl : r l = some l') : ∀ {o : HO} {h : Hp}, (atomO E l o).sat g h → (atomO E' l' (o.ren r)).sat g h
  | .cells _ _, _, ⟨b, us, h1, h2, h3⟩ => ⟨b, us, hr _ _ _ hl h1, RelCs.ren hr h2, h3⟩
  | .sl _ _ _, _, ⟨v, h1, h2⟩ => ⟨v, hr _ _ _ hl h1, h2⟩
  | .held _ _ _, _, ⟨v, h1, h2⟩ => ⟨v, hr _ _ _ hl h1, h2⟩
  | .map .., _, ⟨b, m, h1, h2⟩ => ⟨b, m, hr _ _ _ hl h1, h2⟩
  | .abs _, _, ⟨v, h1, h2⟩ => ⟨v, hr _ _ _ hl h1, h2⟩
  | .ab _, _, ⟨v, h1, h2⟩ => ⟨v, hr _ _ _ hl h1, h2⟩
  | .gone, _, h => h

/-! ### Objects taken out, and laid back -/
theorem sats.under {A : List Atom} {X Y : List Atom} (k : ∀ h, sats g X h → sats g Y h) : ∀ {h : Hp}, sats g (A ++ X) h → sats g (A ++ Y) h := by
  induction A with
  | nil => exact fun s => k _ s
  | cons a A ih => exact fun ⟨h1, h2, ap, e, s1, s2⟩ => ⟨h1, h2, ap, e, s1, ih s2⟩
theorem sats.comm : ∀ {A B : List Atom} {h : Hp}, sats g (A ++ (B ++ F)) h → sats g (B ++ (A ++ F)) h
  | _, [], _, s => s
  | A, b :: B, _, s => by
    obtain ⟨h1, h2, ap, e, s1, s2⟩ := sats.ofEnd (A := A) (F := B ++ F) s
    exact ⟨h1, h2, ap, e, s1, sats.comm s2⟩
theorem sats.take1 {H : List HO} {l : Nat} {o : HO} (ho : H[l]? = some o) {h : Hp} (s : sats g (atomsO E 0 H ++ F) h) : sats g (atomO E l o :: (atomsO E 0 (H.set l .gone) ++ F)) h := by
  have hn := nthA_atoms (E := E) (F := F) (k := 0) ho
  rw [Nat.zero_add] at hn
  obtain ⟨h1, h2, ap, e, s1, s2⟩ := sats.pick hn s
  refine ⟨h1, h2, ap, e, s1, ?_⟩
  have h3 := setA_atoms (E := E) (F := F) (k := 0) (o' := .gone) (List.getElem?_eq_some_iff.1 ho).1
  rw [Nat.zero_add] at h3
  rw [← h3]
  exact sats.unpick hn ⟨fun _ => none, h2, fun _ => .inl rfl, by funext b; rfl, trivial, s2⟩
theorem sats.put1 {H : List HO} {l : Nat} {o : HO} (hl : l < H.length) {h : Hp} (s : sats g (atomO E l o :: (atomsO E 0 H ++ F)) h) : sats g (atomsO E 0 (H.set l o) ++ F) h := by
  obtain ⟨h1, h2, ap, e, s1, s2⟩ := s
  have hn := nthA_atoms (E := E) (F := F) (k := 0) (List.getElem?_eq_getElem hl)
  rw [Nat.zero_add] at hn
  have h3 := setA_atoms (E := E) (F := F) (k := 0) (o' := o) hl
  rw [Nat.zero_add] at h3
  rw [← h3]
  obtain ⟨k1, k2, ap2, e2, _, s3⟩ := sats.pick hn s2
  -- what stood there is let go
  have : sats g (dropA (atomsO E 0 H ++ F) l) h2 := by
    rw [e2]
    have key : ∀ {L : List Atom} {k1 k2 : Hp}, Hp.apart k1 k2 → sats g L k2 → sats g L (k1.join k2) := by
      intro L
      induction L with
      | nil => intros; trivial
      | cons a L ih =>
        rintro k1 k2 ap ⟨m1, m2, ap3, e3, s4, s5⟩
        subst e3
        obtain ⟨a1, a2⟩ := Hp.apart_join.1 ap
        refine ⟨m1, k1.join m2, Hp.apart_join.2 ⟨a1.symm, ap3⟩, ?_, s4, ih a2 s5⟩
        rw [← Hp.join_assoc, Hp.join_comm a1, Hp.join_assoc]
    exact key ap2 s3
  exact sats.unpick hn ⟨h1, h2, ap, e, s1, this⟩
def goneAll (H : List HO) : List Nat → List HO
  | [] => H
  | l :: r => (goneAll H r).set l .gone
theorem goneAll_len (H : List HO) : ∀ ls, (goneAll H ls).length = H.length
  | [] => rfl
  | _ :: r => by unfold goneAll; rw [List.length_set, goneAll_len H r]
theorem memN_iff {l : Nat} : ∀ {ls : List Nat}, memN l ls = true ↔ l ∈ ls
  | [] => by simp [memN]
  | m :: r => by
    unfold memN
    by_cases e : l = m
    · subst e; simp
    · rw [beq_ne e]
      simp [memN_iff (ls := r), e]
theorem nodupN_iff : ∀ {ls : List Nat}, nodupN ls = true ↔ ls.Nodup
  | [] => by simp [nodupN]
  | l :: r => by
    unfold nodupN
    rw [Bool.and_eq_true, nodupN_iff (ls := r), List.nodup_cons]
    constructor
    · rintro ⟨h1, h2⟩
      refine ⟨fun hm => ?_, h2⟩
      rw [memN_iff.2 hm] at h1; cases h1
    · rintro ⟨h1, h2⟩
      refine ⟨?_, h2⟩
      cases hm : memN l r with
      | false => rfl
      | true => exact absurd (memN_iff.1 hm) h1
theorem goneAll_get {H : List HO} {l : Nat} : ∀ {ls : List Nat}, l ∉ ls → (goneAll H ls)[l]? = H[l]?
  | [], _ => rfl
  | m :: r, h => by
    unfold goneAll
    have h1 : m ≠ l := fun e => h (by simp [e])
    rw [List.getElem?_set_ne h1, goneAll_get (fun q => h (List.mem_cons_of_mem _ q))]
def selA (E : Env) (H : Nat → HO) (ls : List Nat) : List Atom := ls.map fun l => atomO E l (H l)
theorem sats.takeAll {H : List HO} {ob : Nat → HO} : ∀ {ls : List Nat} {h : Hp}, ls.Nodup → (∀ l ∈ ls, H[l]? = some (ob l)) → sats g (atomsO E 0 H ++ F) h → sats g (atomsO E 0 (goneAll H ls) ++ (selA E ob ls ++ F)) h
  | [], _, _, _, s => s
  | l :: r, _, hn, ho, s => by
    rw [List.nodup_cons] at hn
    have s1 := sats.takeAll hn.2 (fun q hq => ho q (List.mem_cons_of_mem _ hq)) s
    have s2 := sats.take1 (F := selA E ob r ++ F) (o := ob l) (by rw [goneAll_get hn.1]; exact ho l (by simp)) s1
    exact sats.toEnd s2
/-- .. as a callee's objects. -/
theorem sats.selRen {ob : Nat → HO} {r : Nat → Option Nat} (hr : RenOk r E E') {X : List Atom} : ∀ {ls : List Nat} {k : Nat} {h : Hp}, (∀ i l, ls[i]? = some l → r l = some (k + i)) → sats g (selA E ob ls ++ X) h → sats g (atomsO E' k (ls.map fun l => (ob l).ren r) ++ X) h
  | [], _, _, _, s => s
  | l :: ls, k, _, hi, ⟨h1, h2, ap, e, s1, s2⟩ => ⟨h1, h2, ap, e, atomO.ren hr (by have := hi 0 l rfl; simpa using this) s1, sats.selRen hr (k := k + 1) (fun i m hm => by
      have := hi (i + 1) m (by simpa using hm)
      rw [this]; congr 1; omega) s2⟩
end
end Go.Lm

/- What is reckoned holds: a call, and what it leaves. General: no program in sight. -/
namespace Go.Lm
open Go Go.RowKit
section
variable {W : Base} {F : List Atom} {b : Bs} {E E' E2 : Env} {g w : World} {n : Nat} {a : Act} {s : Ov}
theorem set_gone {H : List HO} {l : Nat} {o : HO} : ∀ {ls : List Nat}, l ∉ ls → (goneAll H ls).set l o = goneAll (H.set l o) ls
  | [], _ => rfl
  | m :: r, h => by
    unfold goneAll
    have h1 : m ≠ l := fun e => h (by simp [e])
    rw [← set_gone (fun q => h (List.mem_cons_of_mem _ q)), List.set_comm _ _ h1]
theorem layBack_ok {ls0 : List Nat} {n0 : Nat} (hr : RenOk (backL ls0 n0) E2 E') : ∀ {ls : List Nat} {H : List HO} {s : Ov} {k : Nat} {h : Hp}, ls.Nodup → ls.length ≤ H.length → (∀ i l, ls[i]? = some l → backL ls0 n0 (k + i) = some l ∧ l < s.n) → (∀ i, backL ls0 n0 (k + ls.length + i) = some (s.n + i)) →
    sats g (atomsO E2 k H ++ (atomsO E' 0 (goneAll (b.heap s) ls) ++ F)) h → sats g (atomsO E' 0 (b.heap (layBack ls0 n0 ls H s)) ++ F) h
  | [], [], s, k, _, _, _, _, _, x => x
  | l :: ls, [], _, _, _, _, hl, _, _, _ => by simp at hl
  | l :: ls, o :: H, s, k, _, hn, hl, h1, h2, x => by
    rw [List.nodup_cons] at hn
    obtain ⟨q1, q2⟩ := h1 0 l rfl
    obtain ⟨k1, k2, ap, e, s1, s2⟩ := x
    have s3 := sats.toEnd (A := atomsO E2 (k + 1) H) (F := atomsO E' 0 (goneAll (b.heap s) (l :: ls)) ++ F) ⟨k1, k2, ap, e, atomO.ren hr q1 s1, s2⟩
    have s4 := sats.under (A := atomsO E2 (k + 1) H) (fun h => sats.put1 (by rw [goneAll_len, heap_len]; exact q2)) s3
    have e1 : (goneAll (b.heap s) (l :: ls)).set l (o.ren (backL ls0 n0)) = goneAll (b.heap (s.setO l (o.ren (backL ls0 n0)))) ls := by
      rw [heap_setO q2, ← set_gone hn.1]
      show ((goneAll (b.heap s) ls).set l HO.gone).set l _ = _
      rw [List.set_set]
    rw [e1] at s4
    exact layBack_ok hr (s := s.setO l (o.ren (backL ls0 n0))) hn.2 (by simpa using hl) (fun i m hm => by
      have := h1 (i + 1) m (by simpa using hm)
      rw [show k + (i + 1) = k + 1 + i by omega] at this; exact this) (fun i => by
      have := h2 i
      rw [List.length_cons] at this
      rw [show k + 1 + ls.length + i = k + (ls.length + 1) + i by omega]; exact this) s4
  | [], o :: H, s, k, _, hn, hl, h1, h2, x => by
    obtain ⟨k1, k2, ap, e, s1, s2⟩ := x
    have q := h2 0
    simp only [List.length_nil, Nat.add_zero] at q
    have s3 := sats.toEnd (A := atomsO E2 (k + 1) H) (F := atomsO E' 0 (b.heap s) ++ F) ⟨k1, k2, ap, e, atomO.ren hr q s1, s2⟩
    have s4 := sats.under (A := atomsO E2 (k + 1) H) (fun h (y : sats g (atomO E' s.n (o.ren (backL ls0 n0)) :: (atomsO E' 0 (b.heap s) ++ F)) h) => by
      have := sats.toEnd y
      show sats g (atomsO E' 0 (b.heap s ++ [o.ren (backL ls0 n0)]) ++ F) h
      rw [atomsO_app, Nat.zero_add, heap_len, List.append_assoc]; exact this) s3
    refine layBack_ok hr (ls := []) (k := k + 1) (s := s.new (o.ren (backL ls0 n0))) hn (Nat.zero_le _) (fun i l h => by simp at h) (fun i => ?_) ?_
    · have := h2 (i + 1)
      simp only [List.length_nil, Nat.add_zero] at this ⊢
      rw [show k + 1 + i = k + (i + 1) by omega, this]
      congr 1
      show s.n + (i + 1) = s.n + 1 + i; omega
    · show sats g (atomsO E2 (k + 1) H ++ (atomsO E' 0 (b.heap (s.new (o.ren (backL ls0 n0)))) ++ F)) _
      rw [heap_new]; exact s4
theorem layBack_f {ls0 : List Nat} {n0 : Nat} : ∀ {ls : List Nat} {H : List HO} {s : Ov}, (layBack ls0 n0 ls H s).f = s.f
  | [], [], _ => rfl
  | _ :: _, [], _ => rfl
  | l :: ls, o :: H, s => by
    show (layBack ls0 n0 ls H (s.setO l _)).f = _
    rw [layBack_f]; rfl
  | [], o :: H, s => by
    show (layBack ls0 n0 [] H (s.new _)).f = _
    rw [layBack_f]; rfl
theorem layBack_n {ls0 : List Nat} {n0 : Nat} : ∀ {ls : List Nat} {H : List HO} {s : Ov}, ls.length ≤ H.length → (layBack ls0 n0 ls H s).n = s.n + (H.length - ls.length)
  | [], [], s, _ => by simp [layBack]
  | _ :: _, [], _, h => by simp at h
  | l :: ls, o :: H, s, h => by
    show (layBack ls0 n0 ls H (s.setO l _)).n = _
    rw [layBack_n (by simpa using h)]
    show s.n + _ = s.n + _
    simp
  | [], o :: H, s, _ => by
    show (layBack ls0 n0 [] H (s.new _)).n = _
    rw [layBack_n (Nat.zero_le _)]
    show s.n + 1 + _ = s.n + _
    simp; omega
theorem layBack_top {ls0 : List Nat} {n0 : Nat} : ∀ {ls : List Nat} {H : List HO} {s : Ov}, (∀ l ∈ ls, l < s.n) → (∀ l, s.n ≤ l → b.obj s l = .gone) → ∀ l, (layBack ls0 n0 ls H s).n ≤ l → b.obj (layBack ls0 n0 ls H s) l = .gone
  | [], [], _, _, h => h
  | _ :: _, [], _, _, h => h
  | l :: ls, o :: H, s, hl, h => by
    show ∀ q, (layBack ls0 n0 ls H (s.setO l _)).n ≤ q → b.obj (layBack ls0 n0 ls H (s.setO l _)) q = .gone
    refine layBack_top (fun m hm => hl m (by simp [hm])) fun q hq => ?_
    have hq' : s.n ≤ q := hq
    rw [obj_setO, if_neg (by have := hl l (by simp); omega)]
    exact h q hq'
  | [], o :: H, s, hl, h => by
    show ∀ q, (layBack ls0 n0 [] H (s.new _)).n ≤ q → b.obj (layBack ls0 n0 [] H (s.new _)) q = .gone
    refine layBack_top (fun m hm => by simp at hm) fun q hq => ?_
    have hq' : s.n + 1 ≤ q := hq
    rw [obj_new, if_neg (by omega)]
    exact h q (by omega)
theorem idxN_get : ∀ {ls : List Nat} {l i : Nat}, idxN ls l = some i → ls[i]? = some l
  | [], _, _, h => by cases h
  | m :: r, l, i, h => by
    unfold idxN at h
    by_cases e : m = l
    · subst e
      have : i = 0 := by simpa using h.symm
      subst this; rfl
    · rw [beq_ne e] at h
      simp only [cond_false] at h
      split at h
      · rename_i j hj
        obtain rfl := Option.some.inj h
        simpa using idxN_get hj
      · cases h
theorem idxN_mem : ∀ {ls : List Nat}, ls.Nodup → ∀ {i l : Nat}, ls[i]? = some l → idxN ls l = some i
  | [], _, _, _, h => by simp at h
  | m :: r, hn, 0, l, h => by
    have : m = l := by simpa using h
    subst this
    simp [idxN]
  | m :: r, hn, i + 1, l, h => by
    rw [List.nodup_cons] at hn
    have h' : r[i]? = some l := by simpa using h
    have hne : m ≠ l := fun e => hn.1 (by rw [e]; exact List.mem_of_getElem? h')
    unfold idxN
    rw [beq_ne hne]
    simp only [cond_false]
    rw [idxN_mem hn.2 h']
theorem factC_ok {p : Prop} : ∀ {c : Cl} {u : Value}, RelC E g c u → factC c p → p := by
  intro c u r h
  unfold factC at h
  split at h
  · exact h r.2
  · exact h r.2
  · exact h (isD_len r)
  · exact h
theorem factCs_ok {p : Prop} : ∀ {l : List Cl} {us : List Value}, RelCs E g l us → factCs l p → p
  | [], _, _, h => h
  | _ :: _, _, ⟨_, _, _, h1, h2⟩, h => factCs_ok h2 (factC_ok h1 h)
theorem factS_ok {p : Prop} : ∀ {x : S1} {u : Value}, RelS E g x u → factS x p → p
  | .c _, _, r, h => factC_ok r h
  | .agg _, _, ⟨_, r, _⟩, h => factCs_ok r h
theorem factSs_ok {p : Prop} : ∀ {l : List S1} {us : List Value}, RelSs E g l us → factSs l p → p
  | [], _, _, h => h
  | _ :: _, _, ⟨_, _, _, h1, h2⟩, h => factSs_ok h2 (factS_ok h1 h)
theorem factV_ok {p : Prop} : ∀ {x : SV} {u : Value}, RelV E g x u → factV x p → p
  | .v _, _, r, h => factS_ok r h
  | .tup _, _, ⟨_, r, _⟩, h => factSs_ok r h
  | .any, _, _, h => h
theorem factVs_ok {p : Prop} : ∀ {l : List SV} {us : List Value}, RelVs E g l us → factVs l p → p
  | [], _, _, h => h
  | _ :: _, _, ⟨_, _, _, h1, h2⟩, h => factVs_ok h2 (factV_ok h1 h)
/-- What a call leaves. -/
theorem run_callV {P : Program} {ct : FuncId → Ct} (hct : ∀ f args H Q, ct f args H Q → WpW W P f args H Q) (S : Sta n W F b E g w s a) {f : FuncId} {args : List SV} {vs : List Value} {K : SV → Ov → Prop} (hv : RelVs E g args vs) (h : callV ct b s f args K) : Ret P f vs.toArray w (Out n W F b E g a K) := by
  unfold callV at h
  simp only at h
  generalize hls : reachL (b.obj s) 1000 (labelsAll args) [] = ls at h
  obtain ⟨hchk, h⟩ := if_ok h
  rw [Bool.and_eq_true, nodupN_iff] at hchk
  obtain ⟨hn, hlt⟩ := hchk
  have hlt' : ∀ l ∈ ls, l < s.n := fun l hl => by have := List.all_eq_true.1 hlt l hl; simpa using this
  have hEl : ∀ l ∈ ls, ∃ v, E[l]? = some v := fun l hl => ⟨_, List.getElem?_eq_getElem (by rw [S.len]; exact hlt' l hl)⟩
  -- the callee's labels
  have hr1 : RenOk (idxN ls) E (ls.map fun l => (E[l]?).getD undef) := fun l l' v h1 h2 => by
    have := idxN_get h1
    rw [List.getElem?_map, this]
    simp [h2]
  have hsat : Sat W (ls.map fun l => (E[l]?).getD undef) g w (ls.map fun l => (b.obj s l).ren (idxN ls)) (atomsO E 0 (goneAll (b.heap s) ls) ++ F) := by
    refine ⟨S.sat.sl.weak fun h0 x => ?_, by simp⟩
    have x1 := sats.takeAll (ob := b.obj s) hn (fun l hl => heap_get (hlt' l hl)) x
    have x2 := sats.comm x1
    exact sats.selRen hr1 (k := 0) (fun i l hi => by rw [Nat.zero_add]; exact idxN_mem hn hi) x2
  refine Ret.mono (hct _ _ _ _ h g w _ _ vs hsat (RelVs.ren hr1 hv)) ?_
  rintro v w' ⟨E2, g', sv, H', hle, hm, hs, hsv, h⟩
  obtain ⟨hlen, h⟩ := if_ok h
  have hlen' : ls.length ≤ H'.length := Nat.le_of_ble_eq_true hlen
  have hE2 : E2.length = H'.length := hs.len
  -- the caller's labels
  have hback : ∀ l, backL ls s.n l = if l < ls.length then ls[l]? else some (s.n + (l - ls.length)) := fun l => by
    unfold backL
    by_cases hl : l < ls.length
    · rw [if_pos hl, List.getElem?_eq_getElem hl]
    · rw [if_neg hl, List.getElem?_eq_none (by omega)]
  have hr2 : RenOk (backL ls s.n) E2 (E ++ E2.drop ls.length) := fun l l' v h1 h2 => by
    rw [hback] at h1
    by_cases hl : l < ls.length
    · rw [if_pos hl] at h1
      have h3 : l' < s.n := hlt' l' (List.mem_of_getElem? h1)
      obtain ⟨u, hu⟩ := hEl l' (List.mem_of_getElem? h1)
      rw [List.getElem?_append_left (by rw [S.len]; exact h3)]
      have := hle l u (by rw [List.getElem?_map, h1]; simp [hu])
      rw [h2] at this
      rw [hu, ← this]
    · rw [if_neg hl] at h1
      obtain rfl := Option.some.inj h1
      rw [List.getElem?_append_right (by rw [S.len]; omega), S.len, List.getElem?_drop, ← h2]
      congr 1; omega
  have hel : (E ++ E2.drop ls.length).length = s.n + (H'.length - ls.length) := by
    rw [List.length_append, S.len, List.length_drop, hE2]
  refine ⟨E ++ E2.drop ls.length, g', layBack ls s.n ls H' s, sv.ren (backL ls s.n), EnvLe.app E _, hm, ⟨S.size, S.defers, fun t u hu => ?_, ⟨?_, ?_⟩, ?_⟩, RelV.ren hr2 hsv, factV_ok hsv h⟩
  · have : b.slot (layBack ls s.n ls H' s) t = b.slot s t := by unfold Bs.slot; rw [layBack_f]
    rw [this] at hu
    exact (S.fr t u hu).mono (EnvLe.app E _) hm
  · refine hs.sl.weak fun h0 x => ?_
    refine layBack_ok hr2 (k := 0) hn hlen' (fun i l hi => ⟨?_, hlt' l (List.mem_of_getElem? hi)⟩) (fun i => ?_) (sats.under (A := atomsO E2 0 H') (fun h => atomsO.env (EnvLe.app E _)) x)
    · rw [hback, Nat.zero_add, if_pos (List.getElem?_eq_some_iff.1 hi).1, hi]
    · rw [hback, if_neg (by omega)]
      congr 1; omega
  · rw [hel, heap_len, layBack_n hlen']
  · exact layBack_top hlt' S.top
theorem RelVs.app : ∀ {l k : List SV} {us vs : List Value}, RelVs E g l us → RelVs E g k vs → RelVs E g (l ++ k) (us ++ vs)
  | [], _, _, _, h, hk => by rw [show _ = _ from h]; exact hk
  | _ :: _, _, _, _, ⟨u, r, e, h1, h2⟩, hk => by rw [e]; exact ⟨u, r ++ _, rfl, h1, RelVs.app h2 hk⟩
theorem relVs_caps : ∀ {l : List Cl} {us : List Value}, RelCs E g l us → RelVs E g (l.map .c) us
  | [], _, h => h
  | _ :: _, _, ⟨u, r, e, h1, h2⟩ => ⟨u, r, e, h1, relVs_caps h2⟩
theorem opds_ok (S : Sta n W F b E g w s a) : ∀ {l : List Operand} {vs : List SV}, opds b s l = some vs → RelVs E g vs (l.map a.eval)
  | [], vs, h => by
    obtain rfl : [] = vs := Option.some.inj h
    rfl
  | x :: r, vs, h => by
    unfold opds at h
    split at h
    · rename_i v hv
      split at h
      · rename_i l hl
        obtain rfl : v :: l = vs := Option.some.inj h
        exact ⟨_, _, rfl, S.opd hv, opds_ok S hl⟩
      · cases h
    · cases h
theorem run_call {P : Program} {o : Oper} {c : Call} {fo : Operand} {f : FuncId} {us : Array Value} (ho : o.op = .call c) (hc : c.callee = .value fo) (hf : a.eval fo = .func (.func f) #[] us) (hk : funcOk P f = true) :
    (execOp a.eval o).run P w = .ok (.enter f (c.args.map a.eval ++ us)) w := by
  unfold funcOk at hk
  split at hk
  · rename_i fn hfn
    simp only [Bool.and_eq_true, Bool.not_eq_true'] at hk
    have h1 : ¬ fn.name = "runtime.NumGoroutine" := by simpa using hk.1
    have h2 : ¬ fn.body = none := fun e => by rw [e] at hk; cases hk.2
    simp only [execOp, ho, resolve, hc, hf, Deferred.ofValue, Array.empty_append]
    simp [invoke, callFunc, hfn, h1, h2, go_sem]
  · cases hk
end
end Go.Lm

/- What is reckoned holds: a string's runes, strings copied. General: no program in sight. -/
namespace Go.Lm
open Go Go.RowKit
section
variable {X : Vx} {n : Nat} {W : Base} {F : List Atom} {b : Bs} {E : Env} {g w : World} {s : Ov} {a : Act} {o : Oper}
theorem br_two {c : Bool} {p q : Prop} (h : br c p q) : (c = true ∧ p) ∨ (c = false ∧ q) := by
  cases c
  · exact .inr ⟨rfl, h⟩
  · exact .inl ⟨rfl, h⟩
theorem run_rangeV (S : Sta n W F b E g w s a) {t : TypeId} {x : Operand} {c : Cl} {K : SV → Ov → Prop} (ho : o.op = .range t x) (r : RelC E g c (a.eval x)) (h : rangeV X s t c K) :
    ∃ v w', (execOp a.eval o).run X.P w = .ok (.value v) w' ∧ Out n W F b E g a K v w' := by
  unfold rangeV at h
  split at h
  · rename_i z ht
    obtain ⟨hx, hz⟩ := r
    have H := S.sat.sl.new (New.mk' w (.stringIter z 0))
    refine ⟨_, _, X_range_str ho ht hx, E ++ [ptr w.heap.size 0], g, _, _, EnvLe.app E _, Mono.refl g, S.new (v := ptr w.heap.size 0) (Mono.refl g) ?_, (show RelV _ g (.c (.p s.n 0)) _ from ⟨_, at_end S _, rfl⟩), h⟩
    exact H.weak fun k ⟨k1, k2, ap, q, s1, s2⟩ => ⟨k1, k2, ap, q, ⟨_, at_end S _, hz, _, rfl, s1⟩, s2⟩
  · exact h.elim
theorem run_nextV (S : Sta n W F b E g w s a) {x : Operand} {c : Cl} {K : SV → Ov → Prop} (ho : o.op = .next x true) (r : RelC E g c (a.eval x)) (h : nextV b s c K) :
    ∃ v w', (execOp a.eval o).run X.P w = .ok (.value v) w' ∧ Out n W F b E g a K v w' := by
  unfold nextV at h
  split at h
  · rename_i l
    obtain ⟨bb, hE, hx⟩ := r
    split at h
    · rename_i z p hob
      have H0 := S.pick hE
      rw [hob] at H0
      obtain ⟨hz, H⟩ : z.size ≤ maxLen ∧ SL W g w (obj bb (.stringIter z p) :: dropA (atomsO E 0 (b.heap s) ++ F) l) := by
        obtain ⟨k, be, se, ow, h1, h2, ap, q, ⟨u, s1, hz, b', e1, s2⟩, s3⟩ := H0
        refine ⟨hz, k, be, se, ow, h1, h2, ap, q, ?_, s3⟩
        rw [hE] at s1
        obtain rfl := Option.some.inj s1
        have : bb = b' := by simpa [ptr] using e1
        rw [this]; exact s2
      have hk := H.has 0
      have hpe : ∀ {m : Nat}, m ≤ 9223372036854775807 → inK .i64 (m : Int) := fun {m} h => by
        show (-9223372036854775808 : Int) ≤ m ∧ (m : Int) ≤ 9223372036854775807
        omega
      have h : (decide (p < z.size) = true ∧ _) ∨ (decide (p < z.size) = false ∧ _) := br_two h
      rcases h with ⟨e, h⟩ | ⟨e, h⟩
      · have hlt : p < z.size := by simpa using e
        have hr := X_next_yes (P := X.P) hk hlt ho hx
        have hd := decode_le z p
        have H2 := SL.updO0 H (⟨rfl, (Array.getElem?_eq_some_iff.1 hk).1⟩ : UpdO w bb (.stringIter z (p + (Utf8.decode z p).2)) _)
        refine ⟨_, _, hr, E, g, _, _, EnvLe.refl E, Mono.refl g, S.back hE (.ab (.iter z (p + (Utf8.decode z p).2))) (Mono.refl g) (H2.weak fun k ⟨k1, k2, ap, q, s1, s2⟩ => ⟨k1, k2, ap, q, ⟨_, hE, hz, _, rfl, s1⟩, s2⟩), ?_, h⟩
        refine ⟨_, ⟨_, _, rfl, ⟨rfl, rfl⟩, _, _, rfl, ⟨rfl, hpe ?_⟩, _, _, rfl, ⟨rfl, ?_⟩, rfl⟩, rfl⟩
        · unfold maxLen at hz; omega
        · show (-2147483648 : Int) ≤ ((Utf8.decode z p).1 : Int) ∧ ((Utf8.decode z p).1 : Int) ≤ 2147483647
          omega
      · have hge : ¬ p < z.size := by simpa using e
        exact ⟨_, _, X_next_no (P := X.P) hk hge ho hx, E, g, s, .tup [.c (.k (.bool false))], EnvLe.refl E, Mono.refl g, S, ⟨_, ⟨_, _, rfl, ⟨rfl, rfl⟩, rfl⟩, rfl⟩, h⟩
    · exact h.elim
  · exact h.elim
theorem copyCs_ok : ∀ {off m j : Nat} {cs cs' : List Cl} {ys : List ByteArray} {us : List Value}, copyCs off m j cs ys = some cs' → (∀ y ∈ ys, y.size ≤ maxLen) → RelCs E g cs us →
    off + m ≤ us.length ∧ RelCs E g cs' (us.take off ++ (((ys.drop j).take m).map Value.string ++ us.drop (off + ((ys.drop j).take m).length)))
  | 0, 0, j, cs, cs', ys, us, h, _, hc => by
    simp only [copyCs, Option.some.injEq] at h
    subst h
    simpa using hc
  | 0, m + 1, j, c :: r, cs', ys, us, h, hy, ⟨u, q, e, h1, h2⟩ => by
    subst e
    unfold copyCs at h
    split at h
    · rename_i z
      split at h
      · rename_i l hl
        obtain rfl := Option.some.inj h
        obtain ⟨h3, h4⟩ := copyCs_ok hl hy h2
        refine ⟨by simp only [List.length_cons]; omega, ?_⟩
        cases hj : ys[j]? with
        | some y =>
          have hd : ys.drop j = y :: ys.drop (j + 1) := by
            obtain ⟨hlt, e⟩ := List.getElem?_eq_some_iff.1 hj
            rw [List.drop_eq_getElem_cons hlt, e]
          rw [hd, List.take_succ_cons]
          simp only [List.take_zero, List.nil_append, List.map_cons, List.length_cons, Option.getD_some, List.cons_append, Nat.zero_add] at h4 ⊢
          rw [List.drop_succ_cons]
          exact ⟨_, _, rfl, ⟨rfl, hy y (List.mem_of_getElem? hj)⟩, h4⟩
        | none =>
          have hlen : ys.length ≤ j := by simpa using hj
          rw [List.drop_eq_nil_of_le (by omega : ys.length ≤ j + 1)] at h4
          rw [List.drop_eq_nil_of_le hlen]
          simp only [List.take_nil, List.map_nil, List.length_nil, List.take_zero, List.nil_append, Nat.add_zero, List.drop_zero, Option.getD_none] at h4 ⊢
          obtain ⟨rfl, hz⟩ := h1
          exact ⟨_, _, rfl, ⟨rfl, hz⟩, h4⟩
      · cases h
    · cases h
  | off + 1, m, j, c :: r, cs', ys, us, h, hy, ⟨u, q, e, h1, h2⟩ => by
    subst e
    unfold copyCs at h
    split at h
    · rename_i l hl
      obtain rfl := Option.some.inj h
      obtain ⟨h3, h4⟩ := copyCs_ok hl hy h2
      refine ⟨by simp only [List.length_cons]; omega, ?_⟩
      rw [List.take_succ_cons, show off + 1 + ((ys.drop j).take m).length = (off + ((ys.drop j).take m).length) + 1 by omega, List.drop_succ_cons]
      exact ⟨_, _, rfl, h1, h4⟩
    · cases h
  | 0, m + 1, j, [], _, _, _, h, _, _ => by cases h
  | off + 1, m, j, [], _, _, _, h, _, _ => by cases h
theorem strs_flat {ds : List (List Value)} : ∀ {ys : List ByteArray}, RelL g ds ys → ds.flatten = ys.map Value.string ∧ ∀ y ∈ ys, y.size ≤ maxLen := by
  induction ds with
  | nil =>
    intro ys h
    cases ys with
    | nil => exact ⟨rfl, fun _ h => by cases h⟩
    | cons _ _ => exact h.elim
  | cons d ds ih =>
    intro ys h
    cases ys with
    | nil => exact h.elim
    | cons y ys =>
      obtain ⟨h1, h2⟩ := h
      obtain ⟨h3, h4⟩ := ih h2
      obtain ⟨e, hs⟩ : d = [.string y] ∧ y.size ≤ maxLen := h1
      refine ⟨by rw [List.flatten_cons, e, h3]; rfl, fun z hz => ?_⟩
      rcases List.mem_cons.1 hz with rfl | hz
      · exact hs
      · exact h4 z hz
theorem run_copyV (S : Sta n W F b E g w s a) {t t2 : TypeId} {x y : Operand} {cx cy : Cl} {K : SV → Ov → Prop} (ho : o.op = .call { callee := .builtin .copy, args := #[x, y], argTypes := #[t, t2] }) (rx : RelC E g cx (a.eval x)) (ry : RelC E g cy (a.eval y)) (h : copyV X b s t t2 cx cy K) :
    ∃ v w', (execOp a.eval o).run X.P w = .ok (.value v) w' ∧ Out n W F b E g a K v w' := by
  unfold copyV at h
  split at h
  · rename_i et l off m ht
    obtain ⟨bb, c, hE, hmc, hx⟩ := rx
    obtain ⟨_, h⟩ := if_ok h
    split at h
    · rename_i ie ys u cs hie hys hob
      obtain ⟨hs1, h⟩ := if_ok h
      have hs1 : ie.size = 1 := Nat.eq_of_beq_eq_true hs1
      split at h
      · rename_i cs' hcs
        obtain ⟨hm, h⟩ := h
        obtain ⟨hrd, _⟩ := listOf_rd S ry hys
        obtain ⟨us, hr, hB, H⟩ := St_cells S hE hob
        -- what is laid
        have key : ∃ vs : List Value, vs = (ys.take m).map Value.string ∧ (∀ z ∈ ys, z.size ≤ maxLen) ∧ (Builtin.lenOf (a.eval y)).run X.P w = .ok ys.length w ∧ (Builtin.firstCells 1 (min ys.length m) (a.eval y)).run X.P w = .ok vs.toArray w := by
          rcases hrd with ⟨e, rfl⟩ | ⟨ad, cap, e, hcap, hcm, ds, hds, hcell⟩
          · rw [e]
            exact ⟨[], by simp, (fun _ h => nomatch h), by simp [Builtin.lenOf], by simp [Builtin.firstCells]⟩
          · obtain ⟨hfl, hsz⟩ := strs_flat (ds := ds) hds
            rw [e]
            refine ⟨_, rfl, hsz, by simp [Builtin.lenOf], ?_⟩
            refine run_firstCells_some (P := X.P) w 1 (min ys.length m) ad ys.length cap ((ys.take m).map Value.string) (by simp [Nat.min_comm]) fun j v hj => ?_
            refine hcell j v ?_
            rw [hfl]
            rw [List.getElem?_map] at hj ⊢
            rw [List.getElem?_take] at hj
            split at hj
            · exact hj
            · cases hj
        obtain ⟨vs, hvs, hsz, hlen, hfc⟩ := key
        obtain ⟨hle, hrel⟩ := copyCs_ok hcs hsz hr
        rw [List.drop_zero, ← hvs] at hrel
        have hvl : vs.length = (ys.take m).length := by rw [hvs, List.length_map]
        rw [← hvl] at hrel
        have hvm : vs.length = min ys.length m := by rw [hvl, List.length_take, Nat.min_comm]
        have hone : ∀ v ∈ vs, v.oneCell' = true := fun v hv => by
          rw [hvs] at hv
          obtain ⟨z, _, rfl⟩ := List.mem_map.1 hv
          rfl
        have hst := run_storeCells_at X.P bb off u vs 0 us.toArray w hB (by rw [List.size_toArray]; omega) hone
        simp only [Nat.add_zero] at hst
        have hrun : (execOp a.eval o).run X.P w = .ok (.value (.int .i64 (min ys.length m : Nat))) (w.setRow bb (us.toArray.toList.take off ++ vs ++ us.toArray.toList.drop (off + vs.length)).toArray) := by
          have hmin : Nat.min ys.length m = min ys.length m := rfl
          simp [execOp, ho, resolve, invoke, builtin, Builtin.copy_, run_underlying ht, hx, hlen, sizeOf, typeInfo, hie, hs1, hfc, hst, goInt, hmin]
        refine ⟨_, _, hrun, E, g, _, .int (min ys.length m : Nat), EnvLe.refl E, Mono.refl g, S.back hE (.cells u cs') (Mono.refl g) ?_, relV_mk ?_, h⟩
        · have H2 := SL.updO0 H ((⟨rfl, hB.lt⟩ : Upd w bb (us.toArray.toList.take off ++ vs ++ us.toArray.toList.drop (off + vs.length)).toArray _).updO hB)
          refine H2.weak fun k ⟨k1, k2, ap, q, s1, s2⟩ => ⟨k1, k2, ap, q, ⟨bb, _, hE, hrel, ?_⟩, s2⟩
          have s1' : k1 bb = some (.cells (us.toArray.toList.take off ++ vs ++ us.toArray.toList.drop (off + vs.length)).toArray u (0, 0)) := s1
          rw [s1']
          simp
        · show (-9223372036854775808 : Int) ≤ (min ys.length m : Nat) ∧ ((min ys.length m : Nat) : Int) ≤ 9223372036854775807
          omega
      · exact h.elim
    · exact h.elim
  · exact h.elim
end
end Go.Lm

/- What is reckoned holds: each operation. General: no program in sight. -/
namespace Go.Lm
open Go Go.RowKit
/-- The contracts hold. -/
def CtOkW (W : Base) (P : Program) (L : List (Nat × Ct)) : Prop := ∀ p ∈ L, ∀ args H Q, p.2 args H Q → WpW W P p.1 args H Q
def CtOk (I : Base → Prop) (P : Program) (L : List (Nat × Ct)) : Prop := ∀ p ∈ L, ∀ args H Q, p.2 args H Q → Wp I P p.1 args H Q
theorem CtOk.nil (I : Base → Prop) (P : Program) : CtOk I P [] := fun _ h => by cases h
theorem CtOk.at {I : Base → Prop} {P : Program} {L : List (Nat × Ct)} (h : CtOk I P L) {W : Base} (hW : I W) : CtOkW W P L := fun p hp args H Q hc => h p hp args H Q hc W hW
theorem CtOk.cons {I : Base → Prop} {P : Program} {L : List (Nat × Ct)} {f : Nat} {c : Ct} (h : ∀ args H Q, c args H Q → Wp I P f args H Q) (k : CtOk I P L) : CtOk I P ((f, c) :: L) := fun p hp => by
  rcases List.mem_cons.1 hp with rfl | hp
  · exact h
  · exact k p hp
theorem CtOk.app {I : Base → Prop} {P : Program} {L M : List (Nat × Ct)} (h : CtOk I P L) (k : CtOk I P M) : CtOk I P (L ++ M) := fun p hp => by
  rcases List.mem_append.1 hp with hp | hp
  · exact h p hp
  · exact k p hp
theorem CtOkW.look {W : Base} {P : Program} : ∀ {L : List (Nat × Ct)}, CtOkW W P L → ∀ f args H Q, lookC L f args H Q → WpW W P f args H Q
  | [], _, _, _, _, _, h => h.elim
  | (k, c) :: r, hL, f, args, H, Q, h => by
    unfold lookC at h
    by_cases e : k = f
    · subst e
      have hb : Nat.beq k k = true := by simp
      rw [hb] at h
      exact hL _ (List.mem_cons_self ..) _ _ _ h
    · rw [beq_ne e] at h
      exact CtOkW.look (fun p hp => hL p (List.mem_cons_of_mem _ hp)) f args H Q h
section
variable {X : Vx} {n : Nat} {W : Base} {F : List Atom} {b : Bs} {E : Env} {g w : World} {s : Ov} {a : Act} {o : Oper} {K : SV → Ov → Prop}
theorem op1_ok {x : Operand} {k : SV → Prop} (h : op1 b s x k) : ∃ v, opd b s x = some v ∧ k v := by
  unfold op1 at h
  split at h
  · rename_i v hv; exact ⟨v, hv, h⟩
  · exact h.elim
theorem cl1_ok {x : Operand} {k : Cl → Prop} (h : cl1 b s x k) : ∃ c, opd b s x = some (.v (.c c)) ∧ k c := by
  unfold cl1 at h
  split at h
  · rename_i c hc; exact ⟨c, hc, h⟩
  · exact h.elim
theorem Out.here (S : Sta n W F b E g w s a) {v : Value} {sv : SV} (r : RelV E g sv v) (h : K sv s) : Out n W F b E g a K v w := ⟨E, g, s, sv, EnvLe.refl E, Mono.refl g, S, r, h⟩
theorem OpR.val {v : Value} {w' : World} {R : Value → World → Prop} {P : Program} (h : (execOp a.eval o).run P w = .ok (.value v) w') (k : R v w') : OpR P o a w R := .inl ⟨v, w', h, k⟩
theorem OpR.er (S : Sta n W F b E g w s a) (h : ER X.P o a w E g fun r => K r s) : OpR X.P o a w (Out n W F b E g a K) := by
  obtain ⟨v, sv, h1, h2, h3⟩ := h
  exact OpR.val h1 (Out.here S h2 h3)
theorem OpR.ex (h : ∃ v w', (execOp a.eval o).run X.P w = .ok (.value v) w' ∧ Out n W F b E g a K v w') : OpR X.P o a w (Out n W F b E g a K) := .inl h
theorem br_cases {q : Bool} {p r : Prop} (h : br q p r) : (q = true ∧ p) ∨ (q = false ∧ r) := by
  cases q
  · exact .inr ⟨rfl, h⟩
  · exact .inl ⟨rfl, h⟩
theorem opt1_ok (S : Sta n W F b E g w s a) {q : Option Operand} {k : Option SV → Prop} (h : opt1 b s q k) : ∃ l, k l ∧ ∀ i, intOf l = some i → BoundIs a q i := by
  unfold opt1 at h
  split at h
  · exact ⟨none, h, fun i hi => .inl ⟨rfl, (Option.some.inj hi).symm⟩⟩
  · rename_i y
    obtain ⟨v, hv, h⟩ := op1_ok h
    refine ⟨some v, h, fun i hi => ?_⟩
    unfold intOf at hi
    split at hi
    · rename_i heq; cases heq
    · rename_i m heq
      cases heq
      exact .inr ⟨y, m, rfl, (Option.some.inj hi).symm, (relV_int (S.opd hv)).1⟩
    · cases hi
theorem capsOf_ok : ∀ {l : List SV} {cs : List Cl} {us : List Value}, capsOf l = some cs → RelVs E g l us → RelCs E g cs us
  | [], cs, us, h, r => by
    obtain rfl : [] = cs := Option.some.inj h
    exact r
  | v :: r, cs, us, h, ⟨u, q, e, h1, h2⟩ => by
    subst e
    unfold capsOf at h
    split at h
    · rename_i heq; cases heq
    · rename_i c r' heq
      cases heq
      split at h
      · rename_i l hl
        obtain rfl : c :: l = cs := Option.some.inj h
        exact RelCs.cons h1 (capsOf_ok hl h2)
      · cases h
    · cases h
theorem relVs_one {c : SV} {us : List Value} (h : RelVs E g [c] us) : ∃ u, us = [u] ∧ RelV E g c u := by
  obtain ⟨u, r, e, h1, h2⟩ := h
  exact ⟨u, by rw [e, show r = [] from h2], h1⟩
theorem relVs_two {c d : SV} {us : List Value} (h : RelVs E g [c, d] us) : ∃ u v, us = [u, v] ∧ RelV E g c u ∧ RelV E g d v := by
  obtain ⟨u, r, e, h1, h2⟩ := h
  obtain ⟨v, e2, h3⟩ := relVs_one h2
  exact ⟨u, v, by rw [e, e2], h1, h3⟩
theorem arr1 {α β : Type} {f : α → β} {l : Array α} {u : β} (h : l.toList.map f = [u]) : ∃ x, l = #[x] ∧ f x = u := by
  obtain ⟨l⟩ := l
  simp only at h
  match l, h with
  | [x], h => exact ⟨x, rfl, by simpa using h⟩
theorem arr2 {α β : Type} {f : α → β} {l : Array α} {u v : β} (h : l.toList.map f = [u, v]) : ∃ x y, l = #[x, y] ∧ f x = u ∧ f y = v := by
  obtain ⟨l⟩ := l
  simp only at h
  match l, h with
  | [x, y], h =>
    simp at h
    exact ⟨x, y, rfl, h.1, h.2⟩
theorem arrT {α : Type} {l : Array α} {t : List α} (h : l.toList = t) : l = t.toArray := by
  subst h; simp
theorem vBuiltin_ok (S : Sta n W F b E g w s a) {c : Call} {bi : Builtin} {args : List SV} (ho : o.op = .call c) (hc : c.callee = .builtin bi) (ha : opds b s c.args.toList = some args) (h : vBuiltin X b s bi args c.argTypes.toList K) : OpR X.P o a w (Out n W F b E g a K) := by
  have hv := opds_ok S ha
  obtain ⟨callee, cargs, ctys⟩ := c
  simp only at hc ha hv h
  subst hc
  unfold vBuiltin at h
  split at h
  · split at h
    · rename_i x t hts
      obtain ⟨u, e, hu⟩ := relVs_one hv
      obtain ⟨ox, rfl, rfl⟩ := arr1 e
      obtain rfl := arrT hts
      exact OpR.er S (run_lenV S ho hu h)
    · exact h.elim
  · split at h
    · rename_i x y t t2 hts
      obtain ⟨u, v, e, hu, hv2⟩ := relVs_two hv
      obtain ⟨ox, oy, rfl, rfl, rfl⟩ := arr2 e
      obtain rfl := arrT hts
      exact OpR.ex (run_appendV S ho hu hv2 h)
    · exact h.elim
  · split at h
    · rename_i x y t t2 hts
      obtain ⟨u, v, e, hu, hv2⟩ := relVs_two hv
      obtain ⟨ox, oy, rfl, rfl, rfl⟩ := arr2 e
      obtain rfl := arrT hts
      exact OpR.ex (run_copyV S ho hu hv2 h)
    · exact h.elim
  · split at h
    · rename_i x y t t2 hts
      obtain ⟨u, v, e, hu, hv2⟩ := relVs_two hv
      obtain ⟨ox, oy, rfl, rfl, rfl⟩ := arr2 e
      obtain rfl := arrT hts
      exact OpR.er S (run_mmV (mn := true) ho hu hv2 h)
    · exact h.elim
  · split at h
    · rename_i x y t t2 hts
      obtain ⟨u, v, e, hu, hv2⟩ := relVs_two hv
      obtain ⟨ox, oy, rfl, rfl, rfl⟩ := arr2 e
      obtain rfl := arrT hts
      exact OpR.er S (run_mmV (mn := false) ho hu hv2 h)
    · exact h.elim
  · exact h.elim
theorem holdVs_ok : ∀ {args : List SV} {us : List Value} {s : Ov} {g : World} {k : List SV → Ov → Prop}, Sta n W F b E g w s a → RelVs E g args us → holdVs b args s k → ∃ g' s' args', Mono g g' ∧ Sta n W F b E g' w s' a ∧ RelVs E g' args' us ∧ k args' s'
  | [], us, s, g, k, S, hv, h => ⟨g, s, [], Mono.refl g, S, hv, h⟩
  | v :: r, us, s, g, k, S, ⟨u, q, e, h1, h2⟩, h => by
    subst e
    have more : ∀ {v' : SV} {g1 : World} {s1 : Ov}, Mono g g1 → Sta n W F b E g1 w s1 a → RelV E g1 v' u → (holdVs b r s1 fun r' s' => k (v' :: r') s') → ∃ g' s' args', Mono g g' ∧ Sta n W F b E g' w s' a ∧ RelVs E g' args' (u :: q) ∧ k args' s' := fun {v' g1 s1} m1 S1 hu h => by
      have h2' : RelVs E g1 r q := by
        have key : ∀ {l : List SV} {us : List Value}, RelVs E g l us → RelVs E g1 l us := by
          intro l
          induction l with
          | nil => intro us h; exact h
          | cons c l ih =>
            rintro us ⟨u, r, e, h1, h2⟩
            exact ⟨u, r, e, h1.mono (EnvLe.refl E) m1, ih h2⟩
        exact key h2
      obtain ⟨g2, s2, r', m2, S2, hr, hk⟩ := holdVs_ok S1 h2' h
      exact ⟨g2, s2, v' :: r', m1.trans m2, S2, ⟨u, q, rfl, hu.mono (EnvLe.refl E) m2, hr⟩, hk⟩
    unfold holdVs at h
    split at h
    · rename_i c
      have hc : RelCs E g [c] [u] := ⟨u, [], rfl, h1, rfl⟩
      obtain ⟨g1, s1, cs, m1, S1, hcs, h⟩ := holdCs_ok S hc h
      split at h
      · rename_i c'
        obtain ⟨u', q', e', h3, h4⟩ := hcs
        obtain rfl : u = u' := (List.cons.inj e').1
        exact more m1 S1 (v' := .v (.c c')) h3 h
      · exact h.elim
    · rename_i l
      obtain ⟨us, hu, rfl⟩ := h1
      obtain ⟨g1, s1, cs, m1, S1, hcs, h⟩ := holdCs_ok S hu h
      exact more m1 S1 (v' := .v (.agg cs)) ⟨us, hcs, rfl⟩ h
    · exact more (Mono.refl g) S h1 h
theorem vCall_ok (hct : CtOkW W X.P X.ct) (S : Sta n W F b E g w s a) {c : Call} (ho : o.op = .call c) (h : vCall X b s c K) : OpR X.P o a w (Out n W F b E g a K) := by
  unfold vCall at h
  split at h
  · exact h.elim
  · rename_i args ha
    split at h
    · rename_i fo hc
      obtain ⟨q, hq, h⟩ := cl1_ok h
      split at h
      · rename_i f caps
        obtain ⟨hk, h⟩ := if_ok h
        obtain ⟨us, h1, h2⟩ := S.opd hq
        refine .inr (.inr ⟨f, _, run_call ho hc h2 hk, ?_⟩)
        have hv := RelVs.app (opds_ok S ha) (relVs_caps h1)
        have e : (c.args.map a.eval ++ us.toArray) = (List.map a.eval c.args.toList ++ us).toArray := by simp
        rw [e]
        split at h
        · obtain ⟨g1, s1, args', m1, S1, hv1, h⟩ := holdVs_ok S hv h
          have := run_callV (P := X.P) hct.look S1 hv1 h
          exact this.mono fun v w' ⟨E', g', s', sv, q1, q2, q3⟩ => ⟨E', g', s', sv, q1, m1.trans q2, q3⟩
        · exact run_callV (P := X.P) hct.look S hv h
      · exact h.elim
    · rename_i bi hc
      exact vBuiltin_ok S ho hc ha h
    · exact h.elim
theorem vOp_ok (hct : CtOkW W X.P X.ct) (S : Sta n W F b E g w s a) (h : vOp X b s o K) : OpR X.P o a w (Out n W F b E g a K) := by
  unfold vOp at h
  split at h
  · rename_i x ho
    obtain ⟨v, hv, h⟩ := op1_ok h
    exact OpR.val (by simp [execOp, ho]) (Out.here S (S.opd hv) h)
  · rename_i x ho
    obtain ⟨v, hv, h⟩ := op1_ok h
    exact OpR.val (by simp [execOp, ho]) (Out.here S (S.opd hv) h)
  · rename_i c x y ho
    obtain ⟨q, hq, h⟩ := cl1_ok h
    obtain ⟨v, hv, h⟩ := op1_ok h
    obtain ⟨u, hu, h⟩ := op1_ok h
    split at h
    · rename_i z
      obtain ⟨hz, _⟩ := S.opd hq
      rcases br_cases h with ⟨e, h⟩ | ⟨e, h⟩ <;> subst e
      · exact OpR.val (v := a.eval x) (by simp [execOp, ho, hz, asBool]) (Out.here S (S.opd hv) h)
      · exact OpR.val (v := a.eval y) (by simp [execOp, ho, hz, asBool]) (Out.here S (S.opd hu) h)
    · exact h.elim
  · rename_i op t x y yt ho
    obtain ⟨v, hv, h⟩ := op1_ok h
    obtain ⟨u, hu, h⟩ := op1_ok h
    exact OpR.er S (ER.of (m := (do eqGuard op t x y (a.eval x) (a.eval y); binOp op t (a.eval x) (a.eval y))) (by simp [execOp, ho]) (run_binV S (S.opd hv) (S.opd hu) h))
  · rename_i op t x ho
    obtain ⟨v, hv, h⟩ := op1_ok h
    exact OpR.er S (ER.of (m := Op.unary op (a.eval x)) (by simp [execOp, ho]) (run_unV (S.opd hv) h))
  · rename_i x i ho
    obtain ⟨v, hv, h⟩ := op1_ok h
    split at h
    · split at h
      · rename_i l c hc
        obtain ⟨us, h1, h2⟩ := S.opd hv
        obtain ⟨u, h3, h4⟩ := h1.get hc
        exact OpR.val (v := u) (by simp [execOp, ho, h2, Instr.extract, h3]) (Out.here S (sv := .v c) h4 h)
      · exact h.elim
    · exact h.elim
  · rename_i t x j ho
    obtain ⟨v, hv, h⟩ := op1_ok h
    split at h
    · split at h
      · rename_i f hf
        split at h
        · rename_i r hr
          exact OpR.er S (run_field ho (S.opd hv) hf hr h)
        · exact h.elim
      · exact h.elim
    · exact h.elim
  · rename_i t x ho
    obtain ⟨c, hc, h⟩ := cl1_ok h
    exact OpR.er S (ER.of (m := Instr.loadAt t (a.eval x)) (by simp [execOp, ho]) (run_loadV S (S.opd hc) h))
  · rename_i t x y ho
    obtain ⟨c, hc, h⟩ := cl1_ok h
    obtain ⟨u, hu, h⟩ := op1_ok h
    split at h
    · obtain ⟨w', s', h1, h2, h3⟩ := run_storeV S ho (S.opd hc) (S.opd hu) h
      exact .inr (.inl ⟨w', h1, E, g, s', .und, EnvLe.refl E, Mono.refl g, h2, relV_und, h3⟩)
    · exact h.elim
  · rename_i t ho
    split at h
    · rename_i z hz
      split at h
      · rename_i e he
        exact OpR.ex (run_alloc_b S ho hz he h)
      · exact OpR.ex (run_alloc S ho hz h)
    · exact h.elim
  · rename_i t x ho
    obtain ⟨v, hv, h⟩ := op1_ok h
    split at h
    · exact OpR.ex (run_box S ho (S.opd hv) h)
    · exact h.elim
  · rename_i x ho
    obtain ⟨c, hc, h⟩ := cl1_ok h
    have r := S.opd hc
    have key : ∀ q : Addr, a.eval x = .pointer (some q) → (execOp a.eval o).run X.P w = .ok (.value (a.eval x)) w := fun q hq => by simp [execOp, ho, hq]
    split at h
    · obtain ⟨bb, h1, h2⟩ := r
      exact OpR.val (key _ h2) (Out.here S (S.opd hc) h)
    · obtain ⟨h0, v, h1, h2⟩ := r
      obtain ⟨cs, h3, _⟩ := elemD h1 h0.1 h0.2.1
      obtain ⟨q, hq, _⟩ := h3 g (Mono.refl g)
      rw [hq] at h2
      exact OpR.val (key _ h2) (Out.here S (S.opd hc) h)
    · obtain ⟨v, h1, h2, q, hq⟩ := r
      exact OpR.val (key _ hq) (Out.here S (S.opd hc) h)
    · exact h.elim
  · rename_i t x j ho
    obtain ⟨c, hc, h⟩ := cl1_ok h
    split at h
    · rename_i f hf
      split at h
      · rename_i ie hie
        obtain ⟨hs, h⟩ := if_ok h
        split at h
        · rename_i c' hc'
          obtain ⟨v, h1, h2⟩ := run_addrF (w := w) ho (S.opd hc) hf hie hs hc'
          exact OpR.val h1 (Out.here S (sv := .c c') h2 h)
        · exact h.elim
      · exact h.elim
    · exact h.elim
  · rename_i t x i ho
    obtain ⟨c, hc, h⟩ := cl1_ok h
    obtain ⟨q, hq, h⟩ := cl1_ok h
    split at h
    · exact OpR.er S (run_indexAddrV S ho (S.opd hc) (relV_int (S.opd hq)).1 h)
    · exact h.elim
  · rename_i t x i ho
    obtain ⟨c, hc, h⟩ := cl1_ok h
    obtain ⟨q, hq, h⟩ := cl1_ok h
    split at h
    · obtain ⟨h0, h1, h⟩ := h
      exact OpR.er S (run_index ho (by assumption) (S.opd hc).1 (S.opd hq).1 h0 h1 h)
    · exact h.elim
  · rename_i t x lo hi ho
    obtain ⟨c, hc, h⟩ := cl1_ok h
    obtain ⟨l, h, hl⟩ := opt1_ok S h
    obtain ⟨m, h, hm⟩ := opt1_ok S h
    split at h
    · rename_i i j hi' hj'
      exact OpR.er S (run_sliceK S ho (S.opd hc) (hl _ hi') (hm _ hj') h)
    · exact h.elim
  · rename_i t ps ho
    split at h
    · rename_i l hl
      exact OpR.er S (run_buildV ho (partsV_ok S hl) h)
    · exact h.elim
  · rename_i t m ps ho
    split at h
    · rename_i l hl
      exact OpR.ex (run_buildSliceV S ho (partsV_ok S hl) h)
    · exact h.elim
  · rename_i src dst x ho
    obtain ⟨v, hv, h⟩ := op1_ok h
    exact OpR.ex (run_convV S ho (S.opd hv) h)
  · rename_i f first captured ho
    obtain ⟨hf, h⟩ := if_ok h
    split at h
    · rename_i l hl
      split at h
      · rename_i cs hcs
        have r := capsOf_ok hcs (opds_ok S hl)
        have hf' : first = #[] := Array.isEmpty_iff.1 hf
        refine OpR.val (v := .func (.func f) #[] (captured.toList.map a.eval).toArray) ?_ (Out.here S (sv := .c (.fn f cs)) ⟨_, r, rfl⟩ h)
        subst hf'
        have e : captured.map a.eval = (captured.toList.map a.eval).toArray := by
          apply Array.ext'; simp
        simp [execOp, ho, Instr.makeFunc, e]
      · exact h.elim
    · exact h.elim
  · rename_i t x ho
    obtain ⟨c, hc, h⟩ := cl1_ok h
    exact OpR.er S (run_ifaceV ho (S.opd hc) h)
  · rename_i x t0 t ho
    obtain ⟨c, hc, h⟩ := cl1_ok h
    exact OpR.er S (run_assertV ho (S.opd hc) h)
  · rename_i t ho
    exact OpR.ex (run_makeMapV S ho h)
  · rename_i t x y c ho
    obtain ⟨mx, hx, h⟩ := cl1_ok h
    obtain ⟨ky, hy, h⟩ := cl1_ok h
    exact OpR.er S (run_lookupV S ho (S.opd hx) (S.opd hy) h)
  · rename_i t x y z ho
    obtain ⟨mx, hx, h⟩ := cl1_ok h
    obtain ⟨ky, hy, h⟩ := cl1_ok h
    obtain ⟨u, hu, h⟩ := op1_ok h
    split at h
    · obtain ⟨w', h1, g', s', h2, h3, h4⟩ := run_mapPutV S ho (S.opd hx) (S.opd hy) (S.opd hu) h
      exact .inr (.inl ⟨w', h1, E, g', s', .und, EnvLe.refl E, h2, h3, relV_und, h4⟩)
    · exact h.elim
  · rename_i t x ho
    obtain ⟨c, hc, h⟩ := cl1_ok h
    exact OpR.ex (run_rangeV S ho (S.opd hc) h)
  · rename_i x ho
    obtain ⟨c, hc, h⟩ := cl1_ok h
    exact OpR.ex (run_nextV S ho (S.opd hc) h)
  · rename_i c ho
    exact vCall_ok hct S ho h
  · exact h.elim
end
end Go.Lm
