/- Texts of mine, laid together: LmKN U2. -/
import Derived.Test.YthlmnlajmakfnaaGreatQ4
import Derived.Test.YthlmnlajmakfnaaGreatQ1
import Derived.Lib.SplitLaws
import Derived.Lib.Split
import Derived.Lib.Join
import Derived.Laws.Concat
import Derived.Test.YthlmnlajmakfnaaGreatProg
import Derived.Test.YthlmnlajmakfnaaGreatChecked
import Derived.Test.YthlmnlajmakfnaaGreatQ3
set_option linter.unusedVariables false
/- Plain facts on names and rows of names: what the functions of layer 6 answer, in Lean's lists. General: no program in sight. -/
namespace Go.LmN
open Go.Lm
open Go Go.RowKit

theorem drop_nth {α : Type} [Inhabited α] {xs : List α} {k : Int} (h0 : 0 ≤ k) (h1 : k < xs.length) : xs.drop k.toNat = nth xs k :: xs.drop (k + 1).toNat := by
 have hk : k.toNat < xs.length := by omega
 rw [nth_eq hk, List.drop_eq_getElem_cons hk]
 congr 2
 omega
def ltB (a b : ByteArray) : Bool := Op.bytesLess a.toList b.toList
def eqB (a b : ByteArray) : Bool := a.toList == b.toList
def cmpB (a b : ByteArray) : Int := if ltB a b then -1 else if !(ltB a b || eqB a b) then 1 else 0
def cmpL : List ByteArray → List ByteArray → Int
 | [], [] => 0
 | [], _ :: _ => -1
 | _ :: _, [] => 1
 | a :: al, b :: bs => if cmpB a b != 0 then cmpB a b else cmpL al bs
section
variable {a b : List ByteArray} {k X : Int}
theorem cmpL_step (h0 : 0 ≤ k) (h1 : k < a.length) (h2 : k < b.length) (hn : (cmpB (nth a k) (nth b k) != 0) = false) (hc : cmpL (a.drop k.toNat) (b.drop k.toNat) = X) : cmpL (a.drop (k + 1).toNat) (b.drop (k + 1).toNat) = X := by
 rw [drop_nth h0 h1, drop_nth h0 h2] at hc
 simp only [cmpL, hn, Bool.false_eq_true, if_false] at hc
 exact hc
end

def sameL : List ByteArray → List ByteArray → Bool
 | [], [] => true
 | a :: al, b :: bs => eqB a b && sameL al bs
 | _, _ => false
section
variable {a b : List ByteArray} {k : Int} {X : Bool}
end
def lessL : List ByteArray → List ByteArray → Bool
 | [], [] => false
 | [], _ :: _ => true
 | _ :: _, [] => false
 | a :: al, b :: bs => if !eqB a b then ltB a b else lessL al bs
section
variable {a b : List ByteArray} {k : Int} {X : Bool}
end
end Go.LmN

/- Plain facts on names: what is wrong with one. General: no program in sight. -/
namespace Go.LmN
open Go.Lm
open Go Go.RowKit

def badC (c : UInt8) : Bool := c == 0 || c == 47
def badB (s : ByteArray) (p : Nat) : Bool := (s.data.toList.drop p).any badC
def dots (s : ByteArray) : Bool := s.toList == (⟨#[]⟩ : ByteArray).toList || (s.toList == (⟨#[46]⟩ : ByteArray).toList || s.toList == (⟨#[46, 46]⟩ : ByteArray).toList)
def validN (s : ByteArray) : Int := if (s.size : Int) > 255 then 23 else if dots s || badB s 0 then 22 else 0

theorem size_list (s : ByteArray) : s.size = s.data.toList.length := by
 rw [Array.length_toList]; rfl
theorem get_list (s : ByteArray) (p : Nat) (h : p < s.size) : s.data.toList[p]'(by rw [← size_list]; exact h) = s[p] := by
 obtain ⟨d⟩ := s
 simp [ByteArray.getElem_eq_getElem_data]
theorem badB_cons (s : ByteArray) (p : Nat) (h : p < s.size) : badB s p = (badC s[p] || badB s (p + 1)) := by
 unfold badB
 rw [List.drop_eq_getElem_cons (by rw [← size_list]; exact h), List.any_cons, get_list s p h]
theorem badB_end (s : ByteArray) (p : Nat) (h : ¬ p < s.size) : badB s p = false := by
 unfold badB
 rw [List.drop_eq_nil_of_le (by rw [← size_list]; omega)]; rfl
theorem get_bang (s : ByteArray) (p : Nat) (h : p < s.size) : s.get! p = s[p] := by
 have := get_at s p h
 simpa using this
theorem decode_skip (s : ByteArray) (p : Nat) (h : p < s.size) (ha : 128 ≤ (s[p]'h).toNat) (k : Nat) (hk : 1 ≤ k) (hkw : k < (Utf8.decode s p).2) : ∃ h' : p + k < s.size, 128 ≤ (s[p + k]'h').toNat := by
 have cont : ∀ j, (decide (p + j < s.size) && (s.get! (p + j)).toNat / 64 == 2) = true → ∃ h' : p + j < s.size, 128 ≤ (s[p + j]'h').toNat := fun j hj => by
  simp only [Bool.and_eq_true, decide_eq_true_eq, beq_iff_eq] at hj
  refine ⟨hj.1, ?_⟩
  rw [← get_bang s (p + j) hj.1]; omega
 have h0 : ¬ (s.get! (p + 0)).toNat < 128 := by rw [get_at s p h]; omega
 unfold Utf8.decode at hkw
 simp only [h0, if_false] at hkw
 split at hkw
 ·rename_i h2
  simp only [Bool.and_eq_true] at h2
  split at hkw
  ·have : k = 1 := by simp at hkw; omega
   subst this; exact cont 1 (by simpa using h2.2)
  ·simp at hkw; omega
 ·split at hkw
  ·rename_i _ h2
   simp only [Bool.and_eq_true] at h2
   split at hkw
   ·have : k = 1 ∨ k = 2 := by simp at hkw; omega
    rcases this with rfl | rfl
    ·exact cont 1 (by simpa using h2.1.2)
    ·exact cont 2 (by simpa using h2.2)
   ·simp at hkw; omega
  ·split at hkw
   ·rename_i _ _ h2
    simp only [Bool.and_eq_true] at h2
    split at hkw
    ·have : k = 1 ∨ k = 2 ∨ k = 3 := by simp at hkw; omega
     rcases this with rfl | rfl | rfl
     ·exact cont 1 (by simpa using h2.1.1.2)
     ·exact cont 2 (by simpa using h2.1.2)
     ·exact cont 3 (by simpa using h2.2)
    ·simp at hkw; omega
   ·simp at hkw; omega
theorem badC_high {c : UInt8} (h : 128 ≤ c.toNat) : badC c = false := by
 unfold badC
 have h0 : c ≠ 0 := fun e => by subst e; simp at h
 have h1 : c ≠ 47 := fun e => by subst e; simp at h
 simp [h0, h1]
theorem badB_run (s : ByteArray) (p : Nat) : ∀ n, (∀ k, k < n → ∃ h' : p + k < s.size, 128 ≤ (s[p + k]'h').toNat) → badB s p = badB s (p + n)
 | 0, _ => rfl
 | n + 1, h => by
  rw [badB_run s p n fun k hk => h k (by omega)]
  obtain ⟨h', hb⟩ := h n (by omega)
  rw [badB_cons s (p + n) h', badC_high hb]; rfl
theorem decode_pos (s : ByteArray) (p : Nat) (h : p < s.size) : 1 ≤ (Utf8.decode s p).2 := by
 by_cases ha : (s[p]'h).toNat < 128
 ·rw [decode_ascii s p h ha]; exact Nat.le_refl _
 ·exact (decode_high s p h (by omega)).2
theorem badB_rune (s : ByteArray) (p : Nat) (h : p < s.size) :
  badB s p = ((((Utf8.decode s p).1 : Int) == 0 || ((Utf8.decode s p).1 : Int) == 47) || badB s (p + (Utf8.decode s p).2)) := by
 by_cases ha : (s[p]'h).toNat < 128
 ·rw [decode_ascii s p h ha, badB_cons s p h]
  congr 1
  unfold badC
  have e : ∀ m : Nat, m < 256 → (s[p] == UInt8.ofNat m) = (((s[p]).toNat : Int) == (m : Int)) := fun m hm => by
   rw [Bool.eq_iff_iff]
   simp only [beq_iff_eq, ← UInt8.toNat_inj, UInt8.toNat_ofNat']
   omega
  exact congr (congrArg _ (e 0 (by omega))) (e 47 (by omega))
 ·have ha' : 128 ≤ (s[p]'h).toNat := by omega
  obtain ⟨h1, h2⟩ := decode_high s p h ha'
  have e0 : (((Utf8.decode s p).1 : Int) == 0) = false := by simp; omega
  have e1 : (((Utf8.decode s p).1 : Int) == 47) = false := by simp; omega
  rw [e0, e1]
  simp only [Bool.or_self, Bool.false_or]
  refine badB_run s p _ fun k hk => ?_
  by_cases hk0 : k = 0
  ·subst hk0; exact ⟨h, ha'⟩
  ·exact decode_skip s p h ha' k (by omega) hk
end Go.LmN

/- Plain facts on paths: how one is cut, and put together. General: no program in sight. -/
namespace Go.LmN
open Go.Lm
open Go Go.RowKit

def sl : ByteArray := ⟨#[47]⟩
def emptyB (s : ByteArray) : Bool := s.toList == (⟨#[]⟩ : ByteArray).toList
def hereB (s : ByteArray) : Bool := s.toList == (⟨#[46]⟩ : ByteArray).toList
def aboveB (s : ByteArray) : Bool := s.toList == (⟨#[46, 46]⟩ : ByteArray).toList
section
variable {ps acc : List ByteArray} {dir : Bool} {k : Int} {X : List ByteArray × Bool × Int}
end
end Go.LmN

/- The order of rows of names: plain facts. General: no program in sight. -/
namespace Go.LmN
open Go.Lm
open Go Go.RowKit

theorem bl_cons (a b : UInt8) (x y : List UInt8) : Op.bytesLess (a :: x) (b :: y) = (decide (a < b) || (a == b && Op.bytesLess x y)) := rfl
theorem bl_irr : ∀ x : List UInt8, Op.bytesLess x x = false
 | [] => rfl
 | a :: x => by rw [bl_cons, bl_irr x]; simp
theorem u8_tri (a b : UInt8) : a < b ∨ a = b ∨ b < a := by
 rcases UInt8.lt_or_le a b with h | h
 ·exact .inl h
 ·rcases UInt8.lt_or_eq_of_le h with h | h
  ·exact .inr (.inr h)
  ·exact .inr (.inl h.symm)
theorem bl_tri : ∀ x y : List UInt8, Op.bytesLess x y = true ∨ x = y ∨ Op.bytesLess y x = true
 | [], [] => .inr (.inl rfl)
 | [], _ :: _ => .inl rfl
 | _ :: _, [] => .inr (.inr rfl)
 | a :: x, b :: y => by
  rw [bl_cons, bl_cons]
  rcases u8_tri a b with h | h | h
  ·exact .inl (by simp [h])
  ·subst h
   rcases bl_tri x y with k | k | k
   ·exact .inl (by simp [k])
   ·exact .inr (.inl (by rw [k]))
   ·exact .inr (.inr (by simp [k]))
  ·exact .inr (.inr (by simp [h]))
theorem bl_trans : ∀ {x y z : List UInt8}, Op.bytesLess x y = true → Op.bytesLess y z = true → Op.bytesLess x z = true
 | _, [], _, h, _ => by simp [Op.bytesLess] at h
 | _, _ :: _, [], _, k => by simp [Op.bytesLess] at k
 | [], _ :: _, _ :: _, _, _ => rfl
 | a :: x, b :: y, c :: z, h, k => by
  rw [bl_cons] at *
  simp only [Bool.or_eq_true, Bool.and_eq_true, decide_eq_true_eq, beq_iff_eq] at *
  rcases h with h | ⟨rfl, h⟩
  ·rcases k with k | ⟨rfl, k⟩
   ·exact .inl (UInt8.lt_trans h k)
   ·exact .inl h
  ·rcases k with k | ⟨rfl, k⟩
   ·exact .inl k
   ·exact .inr ⟨rfl, bl_trans h k⟩
theorem bl_asymm {x y : List UInt8} (h : Op.bytesLess x y = true) : Op.bytesLess y x = false := by
 cases k : Op.bytesLess y x with
 | false => rfl
 | true => have := bl_trans h k; rw [bl_irr] at this; cases this

abbrev Row := List (List UInt8)
def lessK : Row → Row → Bool
 | [], [] => false
 | [], _ :: _ => true
 | _ :: _, [] => false
 | a :: al, b :: bs => Op.bytesLess a b || (a == b && lessK al bs)
def key (a : List ByteArray) : Row := a.map ByteArray.toList
theorem lessL_key : ∀ a b : List ByteArray, lessL a b = lessK (key a) (key b)
 | [], [] => rfl
 | [], _ :: _ => rfl
 | _ :: _, [] => rfl
 | a :: al, b :: bs => by
  show (if !eqB a b then ltB a b else lessL al bs) = (Op.bytesLess a.toList b.toList || (a.toList == b.toList && lessK (key al) (key bs)))
  rw [lessL_key al bs]
  cases h : eqB a b with
  | false => have h' : (a.toList == b.toList) = false := h; rw [h']; simp [ltB]
  | true =>
   have h' : (a.toList == b.toList) = true := h
   have h2 : a.toList = b.toList := by simpa using h'
   rw [h2, bl_irr]; simp
theorem sameL_key : ∀ a b : List ByteArray, sameL a b = decide (key a = key b)
 | [], [] => rfl
 | [], _ :: _ => rfl
 | _ :: _, [] => rfl
 | a :: al, b :: bs => by
  show (eqB a b && sameL al bs) = decide (a.toList :: key al = b.toList :: key bs)
  rw [sameL_key al bs]
  have : eqB a b = decide (a.toList = b.toList) := by unfold eqB; rw [Bool.eq_iff_iff]; simp
  rw [this, Bool.eq_iff_iff]; simp
end Go.LmN

/- How a path is cut at its slashes, byte by byte: plain facts. General: no program in sight. -/
namespace Go.LmN
open Go.Lm
open Go Go.RowKit

theorem idx_none : ∀ {p : List UInt8}, (47 : UInt8) ∉ p → Lib.index p [47] = -1
 | [], _ => rfl
 | b :: p, h => by
  have hb : (b == 47) = false := by simp only [List.mem_cons, not_or] at h; simpa using fun e => h.1 e.symm
  have hp : ([47] : List UInt8).isPrefixOf (b :: p) = false := by simp [List.isPrefixOf]; intro e; exact absurd e.symm (by simpa using hb)
  rw [Lib.index, hp, idx_none (fun e => h (List.mem_cons_of_mem _ e))]
  rfl
theorem idx_hit : ∀ {p : List UInt8} (q : List UInt8), (47 : UInt8) ∉ p → Lib.index (p ++ 47 :: q) [47] = (p.length : Nat)
 | [], q, _ => by rw [List.nil_append, Lib.index]; simp [List.isPrefixOf]
 | b :: p, q, h => by
  have hb : (b == 47) = false := by simp only [List.mem_cons, not_or] at h; simpa using fun e => h.1 e.symm
  have hp : ([47] : List UInt8).isPrefixOf (b :: (p ++ 47 :: q)) = false := by simp [List.isPrefixOf]; intro e; exact absurd e.symm (by simpa using hb)
  rw [List.cons_append, Lib.index, hp, idx_hit q (fun e => h (List.mem_cons_of_mem _ e))]
  rw [if_neg (by simp), if_neg (by simp)]
  simp
theorem split_none {p : List UInt8} (h : (47 : UInt8) ∉ p) : Lib.split p [47] = [p] := by
 unfold Lib.split
 rw [Lib.count_miss (idx_none h)]; rfl
theorem split_hit {p q : List UInt8} (h : (47 : UInt8) ∉ p) : Lib.split (p ++ 47 :: q) [47] = p :: Lib.split q [47] := by
 unfold Lib.split
 have hd : (p ++ 47 :: q).drop (p.length + 1) = q := by rw [List.drop_append]; simp
 rw [Lib.count_hit (by simp) (idx_hit q h), show p.length + ([47] : List UInt8).length = p.length + 1 from rfl, hd, Nat.add_comm 1, Lib.splitK, idx_hit q h, if_neg (by simp)]
 rw [Int.toNat_natCast, Nat.add_zero, show p.length + ([47] : List UInt8).length = p.length + 1 from rfl, hd]
 simp

theorem ba_ext {a b : ByteArray} (h : a.data.toList = b.data.toList) : a = b := by
 cases a with | mk a => cases b with | mk b => simp at h; rw [h]
theorem bas_ext : ∀ {a b : List ByteArray}, a.map (·.data.toList) = b.map (·.data.toList) → a = b
 | [], [], _ => rfl
 | [], _ :: _, h => by simp at h
 | _ :: _, [], h => by simp at h
 | x :: a, y :: b, h => by
  simp only [List.map_cons, List.cons.injEq] at h
  rw [ba_ext h.1, bas_ext h.2]
section
variable {s last : ByteArray} {a k : Int} {acc : List ByteArray} {R : List ByteArray × Bool × Int}
end
theorem eqB_data (a b : ByteArray) : eqB a b = (a.data.toList == b.data.toList) := by unfold eqB; rw [Lib.toList_data, Lib.toList_data]
theorem emptyB_data (s : ByteArray) : emptyB s = (s.data.toList == []) := eqB_data s ⟨#[]⟩
end Go.LmN

/- How names are put together to a path: plain facts. General: no program in sight. -/
namespace Go.LmN
open Go.Lm
open Go Go.RowKit

def jn : ByteArray → List ByteArray → ByteArray
 | acc, [] => acc
 | acc, x :: r => jn (acc ++ ⟨#[47]⟩ ++ x) r
def joinN (l : List ByteArray) : ByteArray := if l.length = 0 then ⟨#[47]⟩ else jn ⟨#[]⟩ l
def tails (l : List ByteArray) : List UInt8 := (l.map fun x => 47 :: x.data.toList).flatten
theorem app_data (a b : ByteArray) : (a ++ b).data.toList = a.data.toList ++ b.data.toList := by simp [ByteArray.data_append]
theorem jn_data : ∀ (l : List ByteArray) (acc : ByteArray), (jn acc l).data.toList = acc.data.toList ++ tails l
 | [], acc => by simp [jn, tails]
 | x :: r, acc => by
  show (jn (acc ++ ⟨#[47]⟩ ++ x) r).data.toList = _
  rw [jn_data r, app_data, app_data]
  simp [tails]
theorem joinN_data (l : List ByteArray) : (joinN l).data.toList = if l.length = 0 then [47] else tails l := by
 unfold joinN
 split
 ·rfl
 ·rw [jn_data]; rfl
theorem tails_lib (l : List ByteArray) (h : l.length ≠ 0) : tails l = 47 :: Lib.join (l.map (·.data.toList)) [47] := by
 cases l with
 | nil => simp at h
 | cons x r =>
  rw [List.map_cons, Lib.join_cons]
  have : ∀ r : List ByteArray, tails r = Lib.joinTail [47] (r.map (·.data.toList)) := fun r => by simp [tails, Lib.joinTail]; rfl
  rw [← this]
  simp [tails]
theorem joinN_lib (l : List ByteArray) : (⟨#[47]⟩ : ByteArray) ++ ⟨(Lib.join (l.map (·.data.toList)) [47]).toArray⟩ = joinN l := by
 apply ba_ext
 rw [app_data, joinN_data]
 split
 ·rename_i h
  obtain rfl := List.eq_nil_of_length_eq_zero h
  simp [Lib.join_nil]
 ·rename_i h
  rw [tails_lib l h]
  simp
theorem app_size (a b : ByteArray) : (a ++ b).size = a.size + b.size := by rw [size_list, app_data, List.length_append, ← size_list, ← size_list]
section
variable {l : List ByteArray} {k : Int} {acc R : ByteArray}
end
theorem join_len (l : List ByteArray) : (Lib.join (l.map (·.data.toList)) [47]).length ≤ (joinN l).size := by
 rw [← joinN_lib, app_size]
 have : (⟨(Lib.join (l.map (·.data.toList)) [47]).toArray⟩ : ByteArray).size = (Lib.join (l.map (·.data.toList)) [47]).length := by rw [size_list]
 omega
theorem join_len1 (l : List ByteArray) : (joinN l).size = 1 + (Lib.join (l.map (·.data.toList)) [47]).length := by
 rw [← joinN_lib, app_size]
 have : (⟨(Lib.join (l.map (·.data.toList)) [47]).toArray⟩ : ByteArray).size = (Lib.join (l.map (·.data.toList)) [47]).length := by rw [size_list]
 rw [this]; rfl
theorem tails_le {m : Nat} : ∀ l : List ByteArray, (∀ x ∈ l, x.size ≤ m) → (tails l).length ≤ l.length * (m + 1)
 | [], _ => by simp [tails]
 | x :: r, h => by
  have h1 := tails_le r fun y hy => h y (List.mem_cons_of_mem _ hy)
  have h2 := h x List.mem_cons_self
  have : (tails (x :: r)).length = 1 + x.size + (tails r).length := by have := size_list x; simp [tails]; omega
  rw [this, List.length_cons, Nat.add_mul]; omega
theorem tails_ge : ∀ l : List ByteArray, l.length ≤ (tails l).length
 | [] => by simp [tails]
 | x :: r => by
  have h1 := tails_ge r
  have : (tails (x :: r)).length = 1 + x.size + (tails r).length := by have := size_list x; simp [tails]; omega
  rw [this, List.length_cons]; omega
theorem joinN_le {m : Nat} {l : List ByteArray} (h : ∀ x ∈ l, x.size ≤ m) : (joinN l).size ≤ 1 + l.length * (m + 1) := by
 rw [size_list, joinN_data]
 split
 ·simp
 ·have := tails_le l h; omega

theorem join_argsM {g w : World} {v : Value} {l : List ByteArray} (h : Is g v l) (hs : Mono g w) (hl : l ≠ []) :
  ∃ bk o c, v = .slice (some ⟨bk, o, none⟩) l.length c ∧ (∀ (j : Nat) x, l[j]? = some x → w.cell? ⟨bk, o + j, none⟩ = some (.string x)) ∧ bk < w.heap.size ∧ l.length ≤ c := by
 rcases is_list.1 h with ⟨_, e⟩ | ⟨⟨bk, o, sp⟩, cap, hv, hc, _, hx⟩
 ·exact absurd e hl
 ·obtain ⟨x, r, rfl⟩ := List.exists_cons_of_ne_nil hl
  have hsp : sp = none := by
   obtain ⟨cs, h1, h2, _⟩ := hx 0 x rfl
   have k0 := h1 0 (.string x) (by rw [h2]; rfl)
   have e : (Addr.mk bk o sp).add (0 * GoRep.size ByteArray + 0) = ⟨bk, o, sp⟩ := by simp [Addr.add]
   rw [e] at k0
   unfold World.cell? at k0
   split at k0
   ·split at k0
    ·cases k0
    ·rename_i hn; simpa using hn
   ·cases k0
  subst hsp
  have key : ∀ (j : Nat) y, (x :: r)[j]? = some y → w.cell? ⟨bk, o + j, none⟩ = some (.string y) := fun j y hj => by
   obtain ⟨cs, h1, h2, _⟩ := hx j y hj
   have := h1 0 (.string y) (by rw [h2]; rfl)
   have e : (Addr.mk bk o none).add (j * GoRep.size ByteArray + 0) = ⟨bk, o + j, none⟩ := by
    simp [Addr.add, GoRep.size]
   rw [e] at this
   exact hs _ _ this
  exact ⟨bk, o, cap, hv, key, World.block_lt_of_cell? w _ (key 0 x rfl), hc⟩
end Go.LmN

/- A path put together of valid names is cut as it was: plain facts. General: no program in sight. -/
namespace Go.LmN
open Go.Lm
open Go Go.RowKit

theorem valid_facts {x : ByteArray} (h : validN x = 0) : x.size ≤ 255 ∧ emptyB x = false ∧ hereB x = false ∧ aboveB x = false ∧ (47 : UInt8) ∉ x.data.toList := by
 unfold validN at h
 split at h
 ·cases h
 ·rename_i hs
  split at h
  ·cases h
  ·rename_i hd
   simp only [Bool.or_eq_true, not_or, Bool.not_eq_true] at hd
   obtain ⟨h1, h2⟩ := hd
   unfold dots at h1
   simp only [Bool.or_eq_false_iff] at h1
   refine ⟨by omega, h1.1, h1.2.1, h1.2.2, fun hm => ?_⟩
   unfold badB at h2
   rw [List.drop_zero, List.any_eq_false] at h2
   exact absurd (h2 47 hm) (by decide)
theorem split_join : ∀ {l : List (List UInt8)}, l ≠ [] → (∀ x ∈ l, (47 : UInt8) ∉ x) → Lib.split (Lib.join l [47]) [47] = l
 | [], h, _ => absurd rfl h
 | [x], _, h => by rw [Lib.join_one, split_none (h x (by simp))]
 | x :: y :: r, _, h => by
  have e : Lib.join (x :: y :: r) [47] = x ++ 47 :: Lib.join (y :: r) [47] := by
   rw [Lib.join_cons, Lib.join_cons]; simp [Lib.joinTail]
  rw [e, split_hit (h x (by simp)), split_join (by simp) fun z hz => h z (List.mem_cons_of_mem _ hz)]
def allV (l : List ByteArray) : Prop := ∀ x ∈ l, validN x = 0
theorem key_eq {p q : List ByteArray} : key p = key q ↔ p = q := by
 refine ⟨fun h => bas_ext ?_, fun h => by rw [h]⟩
 have e : ∀ l : List ByteArray, key l = l.map (·.data.toList) := fun l => by unfold key; exact List.map_congr_left fun x _ => Lib.toList_data x
 rw [e, e] at h; exact h
theorem nil_or {p : List ByteArray} (hp : allV p) (h : tails p = [47]) : False := by
 cases p with
 | nil => simp [tails] at h
 | cons x r =>
  obtain ⟨_, h1, _⟩ := valid_facts (hp x (by simp))
  rw [emptyB_data] at h1
  have e : tails (x :: r) = 47 :: (x.data.toList ++ tails r) := by simp [tails]
  rw [e] at h
  have e2 : x.data.toList ++ tails r = [] := by simpa using h
  have e3 : x.data.toList = [] := (List.append_eq_nil_iff.1 e2).1
  rw [e3] at h1; simp at h1
theorem join_inj {p q : List ByteArray} (hp : allV p) (hq : allV q) : ((joinN p).toList == (joinN q).toList) = sameL p q := by
 rw [Lib.toList_data, Lib.toList_data, sameL_key, Bool.eq_iff_iff]
 simp only [beq_iff_eq, decide_eq_true_eq]
 rw [key_eq]
 refine ⟨fun h => ?_, fun h => by rw [h]⟩
 rw [joinN_data, joinN_data] at h
 by_cases h1 : p.length = 0
 ·rw [if_pos h1] at h
  by_cases h2 : q.length = 0
  ·rw [List.eq_nil_of_length_eq_zero h1, List.eq_nil_of_length_eq_zero h2]
  ·rw [if_neg h2] at h; exact (nil_or hq h.symm).elim
 ·rw [if_neg h1] at h
  by_cases h2 : q.length = 0
  ·rw [if_pos h2] at h; exact (nil_or hp h).elim
  ·rw [if_neg h2, tails_lib p h1, tails_lib q h2] at h
   have e : Lib.join (p.map (·.data.toList)) [47] = Lib.join (q.map (·.data.toList)) [47] := by simpa using h
   have f : ∀ l : List ByteArray, allV l → ∀ x ∈ l.map (·.data.toList), (47 : UInt8) ∉ x := fun l hl x hx => by
    obtain ⟨y, hy, rfl⟩ := List.mem_map.1 hx
    exact (valid_facts (hl y hy)).2.2.2.2
   have s1 := split_join (l := p.map (·.data.toList)) (by simpa using h1) (f p hp)
   have s2 := split_join (l := q.map (·.data.toList)) (by simpa using h2) (f q hq)
   exact bas_ext (by rw [← s1, ← s2, e])
theorem allV_size {l : List ByteArray} (h : allV l) (hl : l.length ≤ 30) : (joinN l).size ≤ 7681 := by
 have := joinN_le (m := 255) fun x hx => (valid_facts (h x hx)).1
 have h2 : l.length * (255 + 1) ≤ 30 * 256 := Nat.mul_le_mul hl (Nat.le_refl _)
 omega
end Go.LmN

namespace Go.Proofs
open Go Go.Lm Go.RowKit
set_option maxRecDepth 1000000
def c_may : Ct
 | [.v (.agg cx)], [], Q => (match (atTy).of cx with
  | some (x, []) => Q (.bool (mayA x)) []
  | _ => False)
 | _, _, _ => False
noncomputable def XU29 : Vx := { P := Tryz.prog, ct := (101, c_opq) :: XU18.ct, ty := tyTab, hold := [], unr := [(3, 4)] }
theorem XU29_ok : CtOk Inv Tryz.prog XU29.ct := CtOk.cons w_opq (XU18_ok)
def vc_may : ((atTy).den) → (SV → List HO → Prop) → Prop :=
 fun x Q => inK .i64 x.1 → inK .i64 x.2.1 → inK .i64 x.2.2.1 → (3 : Nat) ≤ (9223372036854775807 : Nat) ∧ (0 : Int) ≤ (0 : Int) ∧ (0 : Int) < (↑(3 : Nat) : Int) ∧ (0 : Int) ≤ (0 : Int) ∧ (0 : Int) < (↑(2 : Nat) : Int) ∧ br (decide (x.1 < 0)) 
 (Q (.v (.c (.k (.bool false)))) []) ((0 : Int) ≤ (0 : Int) ∧ (0 : Int) < (↑(2 : Nat) : Int) ∧ (0 : Int) ≤ (1 : Int) ∧ (1 : Int) < (↑(2 : Nat) : Int) ∧ br (decide (x.1 > 511)) (Q (.v (.c (.k (.bool false)))) []) (inK .i64 ((0 : Int) + 1) ∧ 
 (0 : Int) ≤ (0 : Int) + 1 ∧ (0 : Int) + 1 < (↑(3 : Nat) : Int) ∧ (0 : Int) ≤ (0 : Int) ∧ (0 : Int) < (↑(2 : Nat) : Int) ∧ br (decide (x.2.1 < 0)) (Q (.v (.c (.k (.bool false)))) []) ((0 : Int) ≤ (0 : Int) ∧ (0 : Int) < (↑(2 : Nat) : Int) ∧ 
 (0 : Int) ≤ (1 : Int) ∧ (1 : Int) < (↑(2 : Nat) : Int) ∧ br (decide (x.2.1 > 65535)) (Q (.v (.c (.k (.bool false)))) []) (inK .i64 ((0 : Int) + 1 + 1) ∧ (0 : Int) ≤ (0 : Int) + 1 + 1 ∧ (0 : Int) + 1 + 1 < (↑(3 : Nat) : Int) ∧ (0 : Int) ≤ (0 
 : Int) ∧ (0 : Int) < (↑(2 : Nat) : Int) ∧ br (decide (x.2.2.1 < 0)) (Q (.v (.c (.k (.bool false)))) []) ((0 : Int) ≤ (0 : Int) ∧ (0 : Int) < (↑(2 : Nat) : Int) ∧ (0 : Int) ≤ (1 : Int) ∧ (1 : Int) < (↑(2 : Nat) : Int) ∧ br (decide (x.2.2.1 > 
 65535)) (Q (.v (.c (.k (.bool false)))) []) (inK .i64 ((0 : Int) + 1 + 1 + 1) ∧ Q (.v (.c (.k (.bool true)))) []))))))
theorem vc_may_eq (x : (atTy).den) (Q : SV → List HO → Prop) : vFun XU29 ⟨[], []⟩ Tryz.f91 [.v (.agg (Ty.cells atTy x))] [] Q = vc_may x Q := by kernel_rfl
theorem w_may : ∀ args H Q, c_may args H Q → Wp Inv Tryz.prog 91 args H Q := by
 intro args H Q h
 unfold c_may at h
 split at h
 rotate_left
 ·exact h.elim
 rename_i cx
 split at h
 rotate_left
 ·exact h.elim
 rename_i x hx
 refine Wp.said (args' := [.v (.agg (Ty.cells atTy x))]) (fun E g => RelVs.cons1 (of_row hx) (fun _ h => h)) ?_
 clear hx
 refine Wp.enter (X := XU29) XU29_ok ⟨[], []⟩ (fn := Tryz.f91) (by kernel_rfl) ?_
 have hv := vc_may_eq x Q
 rw [show vFun _ _ _ _ _ _ = _ from hv]
 unfold vc_may
 intro _ _ _
 have fin : ∀ c, mayA x = c → Q (.bool c) [] := fun c e => e ▸ h
 unfold mayA may3 withinI at fin
 refine ⟨by omega, by omega, by omega, by omega, by omega, br_of (fun h1 => fin _ ?_) (fun h1 => ⟨by omega, by omega, by omega, by omega, br_of (fun h2 => fin _ ?_) (fun h2 => ⟨by unfold inK; omega, by omega, by omega, by omega, by omega, br_of (fun h3 => fin _ ?_) (fun h3 => ⟨by omega, by omega, by omega, by omega, br_of (fun h4 => fin _ ?_) (fun h4 => ⟨by unfold inK; omega, by omega, by omega, by omega, by omega, br_of (fun h5 => fin _ ?_) (fun h5 => ⟨by omega, by omega, by omega, by omega, br_of (fun h6 => fin _ ?_) (fun h6 => ⟨by unfold inK; omega, fin _ ?_⟩)⟩)⟩)⟩)⟩)⟩)⟩
 all_goals clear fin hv h
 all_goals try replace h1 := of_decide_eq_false h1
 all_goals try replace h2 := of_decide_eq_false h2
 all_goals try replace h3 := of_decide_eq_false h3
 all_goals try replace h4 := of_decide_eq_false h4
 all_goals try replace h5 := of_decide_eq_false h5
 all_goals try replace h6 := of_decide_eq_false h6
 all_goals try replace h1 := of_decide_eq_true h1
 all_goals try replace h2 := of_decide_eq_true h2
 all_goals try replace h3 := of_decide_eq_true h3
 all_goals try replace h4 := of_decide_eq_true h4
 all_goals try replace h5 := of_decide_eq_true h5
 all_goals try replace h6 := of_decide_eq_true h6
 all_goals simp only [Bool.and_eq_true, Bool.and_eq_false_iff, decide_eq_true_eq, decide_eq_false_iff_not]
 all_goals dsimp only [Ty.den] at *
 all_goals omega
def c_sized : Ct
 | [.v (.c cx), .v (.c (.k (.int .i64 n)))], [], Q => (match (Ty.sl Ty.u8).of [cx] with
  | some (x, []) => 0 ≤ n ∧ n ≤ 140737488355328 ∧ Q (.c (.o 0)) [.sl 5 .u8 (sizeL x n)]
  | _ => False)
 | _, _, _ => False
noncomputable def XU210 : Vx := { P := Tryz.prog, ct := (91, c_may) :: XU29.ct, ty := tyTab, hold := [] }
theorem XU210_ok : CtOk Inv Tryz.prog XU210.ct := CtOk.cons w_may (XU29_ok)
def vc_sized : (List (Ty.u8).den) → (Int) → (SV → List HO → Prop) → Prop :=
 fun x n Q => List.length x ≤ 9223372036854775807 → inK .i64 n → n = n ∧ 0 ≤ n ∧ n ≤ 140737488355328 ∧ Q (SV.v (S1.c (.o 0))) [.sl 5 Ty.u8 (copyL (List.replicate (Int.toNat n) (0 : Ty.den Ty.u8)) (0 : Nat) x)]
theorem vc_sized_eq (x : List (Ty.u8).den) (n : Int) (Q : SV → List HO → Prop) : vFun XU210 ⟨[], []⟩ Tryz.f57 [.c (.d Ty.u8 x), .int n] [] Q = vc_sized x n Q := by kernel_rfl
theorem w_sized : ∀ args H Q, c_sized args H Q → Wp Inv Tryz.prog 57 args H Q := by
 intro args H Q h
 unfold c_sized at h
 split at h
 rotate_left
 ·exact h.elim
 rename_i cx n
 split at h
 rotate_left
 ·exact h.elim
 rename_i x hx
 refine Wp.said (args' := [.c (.d Ty.u8 x), .int n]) (fun E g => RelVs.cons1 (of_list hx) (RelVs.cons1 (fun _ h => h) (fun _ h => h))) ?_
 clear hx
 refine Wp.enter (X := XU210) XU210_ok ⟨[], []⟩ (fn := Tryz.f57) (by kernel_rfl) ?_
 have hv := vc_sized_eq x n Q
 rw [show vFun _ _ _ _ _ _ = _ from hv]
 unfold vc_sized
 intro _ _
 exact ⟨rfl, h.1, h.2.1, h.2.2⟩
def c_bclone : Ct
 | [.v (.c cx)], [], Q => (match (Ty.sl Ty.u8).of [cx] with
  | some (x, []) => x.length ≤ 140737488355328 ∧ Q (.c (.o 0)) [.sl 5 .u8 x]
  | _ => False)
 | _, _, _ => False
noncomputable def XU211 : Vx := { P := Tryz.prog, ct := (57, c_sized) :: XU210.ct, ty := tyTab, hold := [] }
theorem XU211_ok : CtOk Inv Tryz.prog XU211.ct := CtOk.cons w_sized (XU210_ok)
def vc_bclone : (List (Ty.u8).den) → (SV → List HO → Prop) → Prop :=
 fun x Q => List.length x ≤ 9223372036854775807 → ∀ (c : Bool), (c = true → x = []) → br (if true = true then c else !c) (Q (.v (.c (.k (.slice none 0 0)))) []) ((0 + List.length x) * 1 ≤ (140737488355328 : Nat) ∧ 0 + List.length x ≤ 
 9223372036854775807 ∧ Q (SV.v (S1.c (.o 0))) [.sl 5 Ty.u8 ([] ++ x)])
theorem vc_bclone_eq (x : List (Ty.u8).den) (Q : SV → List HO → Prop) : vFun XU211 ⟨[], []⟩ Tryz.f55 [.c (.d Ty.u8 x)] [] Q = vc_bclone x Q := by kernel_rfl
theorem w_bclone : ∀ args H Q, c_bclone args H Q → Wp Inv Tryz.prog 55 args H Q := by
 intro args H Q h
 unfold c_bclone at h
 split at h
 rotate_left
 ·exact h.elim
 rename_i cx
 split at h
 rotate_left
 ·exact h.elim
 rename_i x hx
 refine Wp.said (args' := [.c (.d Ty.u8 x)]) (fun E g => RelVs.cons1 (of_list hx) (fun _ h => h)) ?_
 clear hx
 refine Wp.ownNil (t := 5) (e := .u8) ?_
 refine Wp.enter (X := XU211) XU211_ok ⟨[], []⟩ (fn := Tryz.f55) (by kernel_rfl) ?_
 refine Eq.mpr (vc_bclone_eq x _) ?_
 unfold vc_bclone
 intro _ c hc
 refine br_of (fun hb => .inr ⟨rfl, ?_⟩) (fun hb => ⟨by omega, by omega, .inl ?_⟩)
 ·have := hc (by simpa using hb)
  subst this
  exact h.2
 ·exact h.2
def c_valid : Ct
 | [.v (.c (.k (.string s)))], [], Q => Q (.int (validN s)) []
 | _, _, _ => False
noncomputable def XU212 : Vx := { P := Tryz.prog, ct := (55, c_bclone) :: XU211.ct, ty := tyTab, hold := [] }
theorem XU212_ok : CtOk Inv Tryz.prog XU212.ct := CtOk.cons w_bclone (XU211_ok)
def vc_valid : (ByteArray) → (SV → List HO → Prop) → Prop :=
 fun s Q => ByteArray.size s ≤ 9223372036854775807 → br (decide ((↑(ByteArray.size s) : Int) > (255 : Int))) (Q (.v (.c (.k (.int .i64 23)))) []) (br (sEq s (ByteArray.mk #[])) (Q (.v (.c (.k (.int .i64 22)))) []) (br (sEq s (ByteArray.mk 
 #[(46 : UInt8)])) (Q (.v (.c (.k (.int .i64 22)))) []) (br (sEq s (ByteArray.mk #[(46 : UInt8), (46 : UInt8)])) (Q (.v (.c (.k (.int .i64 22)))) []) (LoopP (fun i again => br (decide (i.2.1.2 < ByteArray.size i.2.1.1)) (br ((↑(Utf8.decode 
 i.2.1.1 i.2.1.2).1 : Int) == 0) (Q (.v (.c (.k (.int .i64 22)))) []) (br ((↑(Utf8.decode i.2.1.1 i.2.1.2).1 : Int) == 47) (Q (.v (.c (.k (.int .i64 22)))) []) (again ((), (i.2.1.1, i.2.1.2 + (Utf8.decode i.2.1.1 i.2.1.2).2), ())))) (Q (.v 
 (.c (.k (.int .i64 0)))) [])) ((), (s, (0 : Nat)), ())))))
theorem vc_valid_eq (s : ByteArray) (Q : SV → List HO → Prop) : vFun XU212 ⟨[(7, ⟨[], [(0, .ab .iter)]⟩)], []⟩ Tryz.f112 [.str s] [] Q = vc_valid s Q := by kernel_rfl
theorem w_valid : ∀ args H Q, c_valid args H Q → Wp Inv Tryz.prog 112 args H Q := by
 intro args H Q h
 unfold c_valid at h
 split at h
 rotate_left
 ·exact h.elim
 rename_i s
 refine Wp.enter (X := XU212) XU212_ok ⟨[(7, ⟨[], [(0, .ab .iter)]⟩)], []⟩ (fn := Tryz.f112) (by kernel_rfl) ?_
 have hv := vc_valid_eq s Q
 rw [show vFun _ _ _ _ _ _ = _ from hv]
 unfold vc_valid
 intro hs
 unfold validN dotsB at h
 refine br_of (fun h1 => ?_) (fun h1 => ?_)
 ·rw [if_pos (by simpa using h1)] at h; exact h
 ·rw [if_neg (by simpa using h1)] at h
  have bad : ∀ c, (slashB s 0 || (sEq s ⟨#[]⟩ || (sEq s ⟨#[46]⟩ || sEq s ⟨#[46, 46]⟩))) = c → Q (.int (if c = true then 22 else 0)) [] := fun c e => e ▸ h
  refine br_of (fun h2 => bad true (by rw [h2]; simp)) (fun h2 => br_of (fun h3 => bad true (by rw [h3]; simp)) (fun h3 => br_of (fun h4 => bad true (by rw [h4]; simp)) (fun h4 => ?_)))
  rw [h2, h3, h4] at bad
  have ok : ∀ c, slashB s 0 = c → Q (.int (if c = true then 22 else 0)) [] := fun c e => bad c (by rw [e]; simp)
  refine LoopP.intro (fun i => i.2.1.1 = s ∧ slashB s i.2.1.2 = slashB s 0) (fun i => s.size - i.2.1.2) ⟨rfl, rfl⟩ ?_
  rintro ⟨_, ⟨z, p⟩, _⟩ ⟨rfl, hb⟩
  simp only at hb ⊢
  refine br_of (fun h5 => ?_) (fun h5 => ?_)
  ·have h5 : p < z.size := by simpa using h5
   have hr : slashB z p = ((((Utf8.decode z p).1 : Int) == 0 || ((Utf8.decode z p).1 : Int) == 47) || slashB z (p + (Utf8.decode z p).2)) := Go.LmN.badB_rune z p h5
   have hd := Go.LmN.decode_pos z p h5
   refine br_of (fun h6 => ok true (by rw [← hb, hr, h6]; rfl)) (fun h6 => br_of (fun h7 => ok true (by rw [← hb, hr, h6, h7]; rfl)) (fun h7 => ⟨⟨trivial, ?_⟩, ?_⟩))
   ·rw [h6, h7] at hr
    rw [← hb, hr]; rfl
   ·omega
  ·have h5 : ¬ p < z.size := by simpa using h5
   exact ok false (by rw [← hb]; exact Go.LmN.badB_end z p h5)
def c_sclone : Ct
 | [.v (.c cx)], [], Q => (match (Ty.sl xaTy).of [cx] with
  | some (x, []) => x.length ≤ 1000 ∧ Q (.c (.o 0)) [.sl 71 xaTy x]
  | _ => False)
 | _, _, _ => False
noncomputable def XU213 : Vx := { P := Tryz.prog, ct := (112, c_valid) :: XU212.ct, ty := tyTab, hold := [] }
theorem XU213_ok : CtOk Inv Tryz.prog XU213.ct := CtOk.cons w_valid (XU212_ok)
def vc_sclone : (List (xaTy).den) → (SV → List HO → Prop) → Prop :=
 fun x Q => List.length x ≤ 9223372036854775807 → ∀ (c : Bool), (c = true → x = []) → br (if true = true then c else !c) (Q (.v (.c (.k (.slice none 0 0)))) []) ((0 + List.length x) * 40 ≤ (140737488355328 : Nat) ∧ 0 + List.length x ≤ 
 9223372036854775807 ∧ Q (SV.v (S1.c (.o 0))) [.sl 71 xaTy ([] ++ x)])
theorem vc_sclone_eq (x : List (xaTy).den) (Q : SV → List HO → Prop) : vFun XU213 ⟨[], []⟩ Tryz.f114 [.c (.d xaTy x)] [] Q = vc_sclone x Q := by kernel_rfl
theorem w_sclone : ∀ args H Q, c_sclone args H Q → Wp Inv Tryz.prog 114 args H Q := by
 intro args H Q h
 unfold c_sclone at h
 split at h
 rotate_left
 ·exact h.elim
 rename_i cx
 split at h
 rotate_left
 ·exact h.elim
 rename_i x hx
 refine Wp.said (args' := [.c (.d xaTy x)]) (fun E g => RelVs.cons1 (of_list hx) (fun _ h => h)) ?_
 clear hx
 refine Wp.ownNil (t := 71) (e := xaTy) ?_
 refine Wp.enter (X := XU213) XU213_ok ⟨[], []⟩ (fn := Tryz.f114) (by kernel_rfl) ?_
 refine Eq.mpr (vc_sclone_eq x _) ?_
 unfold vc_sclone
 intro _ c hc
 refine br_of (fun hb => .inr ⟨rfl, ?_⟩) (fun hb => ⟨by omega, by omega, .inl ?_⟩)
 ·have := hc (by simpa using hb)
  subst this
  exact h.2
 ·exact h.2
def c_attrs : Ct
 | [.v (.c cx)], [], Q => (match (Ty.sl xaTy).of [cx] with
  | some (x, []) => x.length ≤ 1000 ∧ (∀ y ∈ x, y.2.1.length ≤ 140737488355328) ∧ Q (.c (.o 0)) [.sl 71 xaTy x]
  | _ => False)
 | _, _, _ => False
noncomputable def XU214 : Vx := { P := Tryz.prog, ct := (114, c_sclone) :: XU213.ct, ty := tyTab, hold := [] }
theorem XU214_ok : CtOk Inv Tryz.prog XU214.ct := CtOk.cons w_sclone (XU213_ok)
def vc_attrs : (List (xaTy).den) → (SV → List HO → Prop) → Prop :=
 fun x Q => List.length x ≤ 9223372036854775807 → List.length x ≤ 1000 ∧ (List.length x ≤ 9223372036854775807 → LoopP (fun i again => br (decide (i.1.1 < (x.length : Int))) (0 ≤ i.1.1 ∧ i.1.1 < (↑(List.length i.2.1) : Int) ∧ 0 ≤ i.1.1 ∧ 
 i.1.1 < (↑(List.length i.2.1) : Int) ∧ (Ty.ok xaTy (ixD xaTy i.2.1 i.1.1) → List.length (ixD xaTy i.2.1 i.1.1).2.1 ≤ 140737488355328 ∧ 0 ≤ i.1.1 ∧ i.1.1 < (↑(List.length i.2.1) : Int) ∧ 0 ≤ i.1.1 ∧ i.1.1 < (↑(List.length i.2.1) : Int) ∧ inK 
 .i64 (i.1.1 + 1) ∧ again ((i.1.1 + 1, ()), List.set i.2.1 (Int.toNat i.1.1) (ixD xaTy i.2.1 i.1.1), ()))) (Q (SV.v (S1.c (.o 0))) [.sl 71 xaTy i.2.1])) (((0 : Int), ()), x, ()))
theorem vc_attrs_eq (x : List (xaTy).den) (Q : SV → List HO → Prop) : vFun XU214 ⟨[(4, ⟨[(9, .int .i64)], [(0, .sl 71 xaTy)]⟩)], []⟩ Tryz.f70 [.c (.d xaTy x)] [] Q = vc_attrs x Q := by kernel_rfl
theorem w_attrs : ∀ args H Q, c_attrs args H Q → Wp Inv Tryz.prog 70 args H Q := by
 intro args H Q h
 unfold c_attrs at h
 split at h
 rotate_left
 ·exact h.elim
 rename_i cx
 split at h
 rotate_left
 ·exact h.elim
 rename_i x hx
 refine Wp.said (args' := [.c (.d xaTy x)]) (fun E g => RelVs.cons1 (of_list hx) (fun _ h => h)) ?_
 clear hx
 refine Wp.enter (X := XU214) XU214_ok ⟨[(4, ⟨[(9, .int .i64)], [(0, .sl 71 xaTy)]⟩)], []⟩ (fn := Tryz.f70) (by kernel_rfl) ?_
 have hv := vc_attrs_eq x Q
 rw [show vFun _ _ _ _ _ _ = _ from hv]
 unfold vc_attrs
 intro _
 refine ⟨h.1, fun _ => LoopP.intro (fun i => 0 ≤ i.1.1 ∧ i.2.1 = x) (fun i => x.length - i.1.1.toNat) ⟨by simp, rfl⟩ ?_⟩
 rintro ⟨⟨i, _⟩, z, _⟩ ⟨h0, rfl⟩
 simp only at h0 ⊢
 have hz : z.length ≤ 1000 := h.1
 refine br_of (fun hc => ?_) (fun hc => h.2.2)
 have hc : i < z.length := by simpa using hc
 have hm : ixD xaTy z i ∈ z := by
  have e : ixD xaTy z i = z[i.toNat]'(by omega) := by
   unfold ixD
   rw [List.getD_eq_getElem?_getD, List.getElem?_eq_getElem (by omega)]; rfl
  rw [e]; exact List.getElem_mem _
 refine ⟨h0, hc, h0, hc, fun _ => ⟨h.2.1 _ hm, h0, hc, h0, hc, by unfold inK; omega, ⟨by omega, ?_⟩, by omega⟩⟩
 have e : ixD xaTy z i = z[i.toNat]'(by omega) := by
  unfold ixD
  rw [List.getD_eq_getElem?_getD, List.getElem?_eq_getElem (by omega)]; rfl
 rw [e]; exact List.set_getElem_self _
end Go.Proofs

