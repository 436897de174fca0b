/- How names are put together to a path: plain facts. General: no program in sight. -/
import Derived.Test.YtnmaehdklmgfmaaLmCut
import Derived.Lib.Join
import Derived.Laws.Concat
namespace Go.Lm
open Go Go.RowKit

theorem X_add_str {P : Program} {w : World} {ρ : Operand → Value} {o : Oper} {x y : Operand} {t u : TypeId} {a b : ByteArray} (h : a.size + b.size ≤ 9223372036854775807) (ho : o.op = .binOp .add t x y u) (hx : ρ x = .string a) (hy : ρ y = .string b) :
    (execOp ρ o).run P w = .ok (.value (.string (a ++ b))) w := by
  have := run_string_add_sum (P := P) w a b h
  have h2 : (eqGuard .add t x y (.string a) (.string b)).run P w = .ok () w := by simp [eqGuard]
  have h3 : (binOp .add t (.string a) (.string b)).run P w = .ok (.string (a ++ b)) w := by rw [binOp_string_add]; exact this
  simp [execOp, ho, hx, hy, h2, h3]

/-- Each name behind a slash. -/
def jn : ByteArray → List ByteArray → ByteArray
  | acc, [] => acc
  | acc, x :: r => jn (acc ++ ⟨#[47]⟩ ++ x) r
def joinN (l : List ByteArray) : ByteArray := if l.length = 0 then ⟨#[47]⟩ else jn ⟨#[]⟩ l
def tails (l : List ByteArray) : List UInt8 := (l.map fun x => 47 :: x.data.toList).flatten
theorem app_data (a b : ByteArray) : (a ++ b).data.toList = a.data.toList ++ b.data.toList := by simp [ByteArray.data_append]
theorem jn_data : ∀ (l : List ByteArray) (acc : ByteArray), (jn acc l).data.toList = acc.data.toList ++ tails l
  | [], acc => by simp [jn, tails]
  | x :: r, acc => by
    show (jn (acc ++ ⟨#[47]⟩ ++ x) r).data.toList = _
    rw [jn_data r, app_data, app_data]
    simp [tails]
theorem joinN_data (l : List ByteArray) : (joinN l).data.toList = if l.length = 0 then [47] else tails l := by
  unfold joinN
  split
  · rfl
  · rw [jn_data]; rfl
theorem tails_lib (l : List ByteArray) (h : l.length ≠ 0) : tails l = 47 :: Lib.join (l.map (·.data.toList)) [47] := by
  cases l with
  | nil => simp at h
  | cons x r =>
    rw [List.map_cons, Lib.join_cons]
    have : ∀ r : List ByteArray, tails r = Lib.joinTail [47] (r.map (·.data.toList)) := fun r => by simp [tails, Lib.joinTail]; rfl
    rw [← this]
    simp [tails]
theorem joinN_lib (l : List ByteArray) : (⟨#[47]⟩ : ByteArray) ++ ⟨(Lib.join (l.map (·.data.toList)) [47]).toArray⟩ = joinN l := by
  apply ba_ext
  rw [app_data, joinN_data]
  split
  · rename_i h
    obtain rfl := List.eq_nil_of_length_eq_zero h
    simp [Lib.join_nil]
  · rename_i h
    rw [tails_lib l h]
    simp
theorem jn_size (l : List ByteArray) (acc : ByteArray) : (jn acc l).size = acc.size + (tails l).length := by
  rw [size_list, jn_data, List.length_append, ← size_list]
theorem app_size (a b : ByteArray) : (a ++ b).size = a.size + b.size := by rw [size_list, app_data, List.length_append, ← size_list, ← size_list]
section
variable {l : List ByteArray} {k : Int} {acc R : ByteArray}
theorem jn_next (h0 : 0 ≤ k) (h1 : k < l.length) (hc : jn acc (l.drop k.toNat) = R) : jn (acc ++ ⟨#[47]⟩ ++ nth l k) (l.drop (k + 1).toNat) = R := by
  rw [drop_nth h0 h1] at hc; exact hc
theorem jn_fin (h1 : ¬ k < l.length) (hc : jn acc (l.drop k.toNat) = R) : acc = R := by
  rw [drop_end h1] at hc; exact hc
theorem jn_bound (h0 : 0 ≤ k) (h1 : k < l.length) (hc : jn acc (l.drop k.toNat) = R) : acc.size + 1 + (nth l k).size ≤ R.size := by
  have := jn_next h0 h1 hc
  rw [← this, jn_size, app_size, app_size]
  show acc.size + 1 + (nth l k).size ≤ acc.size + 1 + (nth l k).size + _
  omega
end
theorem join_len (l : List ByteArray) : (Lib.join (l.map (·.data.toList)) [47]).length ≤ (joinN l).size := by
  rw [← joinN_lib, app_size]
  have : (⟨(Lib.join (l.map (·.data.toList)) [47]).toArray⟩ : ByteArray).size = (Lib.join (l.map (·.data.toList)) [47]).length := by rw [size_list]
  omega
theorem join_len1 (l : List ByteArray) : (joinN l).size = 1 + (Lib.join (l.map (·.data.toList)) [47]).length := by
  rw [← joinN_lib, app_size]
  have : (⟨(Lib.join (l.map (·.data.toList)) [47]).toArray⟩ : ByteArray).size = (Lib.join (l.map (·.data.toList)) [47]).length := by rw [size_list]
  rw [this]; rfl
theorem tails_le {m : Nat} : ∀ l : List ByteArray, (∀ x ∈ l, x.size ≤ m) → (tails l).length ≤ l.length * (m + 1)
  | [], _ => by simp [tails]
  | x :: r, h => by
    have h1 := tails_le r fun y hy => h y (List.mem_cons_of_mem _ hy)
    have h2 := h x List.mem_cons_self
    have : (tails (x :: r)).length = 1 + x.size + (tails r).length := by have := size_list x; simp [tails]; omega
    rw [this, List.length_cons, Nat.add_mul]; omega
theorem tails_ge : ∀ l : List ByteArray, l.length ≤ (tails l).length
  | [] => by simp [tails]
  | x :: r => by
    have h1 := tails_ge r
    have : (tails (x :: r)).length = 1 + x.size + (tails r).length := by have := size_list x; simp [tails]; omega
    rw [this, List.length_cons]; omega
theorem joinN_le {m : Nat} {l : List ByteArray} (h : ∀ x ∈ l, x.size ≤ m) : (joinN l).size ≤ 1 + l.length * (m + 1) := by
  rw [size_list, joinN_data]
  split
  · simp
  · have := tails_le l h; omega

/-- What the library's Join is asked for. -/
theorem join_args {g w : World} {v : Value} {l : List ByteArray} (h : Is g v l) (hs : Sees g w) (hl : l ≠ []) :
    ∃ bk o c, v = .slice (some ⟨bk, o, none⟩) l.length c ∧ (∀ (j : Nat) x, l[j]? = some x → w.cell? ⟨bk, o + j, none⟩ = some (.string x)) ∧ bk < w.heap.size ∧ l.length ≤ c := by
  rcases is_list.1 h with ⟨_, e⟩ | ⟨⟨bk, o, sp⟩, cap, hv, hc, _, hx⟩
  · exact absurd e hl
  · obtain ⟨x, r, rfl⟩ := List.exists_cons_of_ne_nil hl
    have hsp : sp = none := by
      obtain ⟨cs, h1, h2, _⟩ := hx 0 x rfl
      have k0 := h1 0 (.string x) (by rw [h2]; rfl)
      have e : (Addr.mk bk o sp).add (0 * GoRep.size ByteArray + 0) = ⟨bk, o, sp⟩ := by simp [Addr.add]
      rw [e] at k0
      unfold World.cell? at k0
      split at k0
      · split at k0
        · cases k0
        · rename_i hn; simpa using hn
      · cases k0
    subst hsp
    have key : ∀ (j : Nat) y, (x :: r)[j]? = some y → w.cell? ⟨bk, o + j, none⟩ = some (.string y) := fun j y hj => by
      obtain ⟨cs, h1, h2, _⟩ := hx j y hj
      have := h1 0 (.string y) (by rw [h2]; rfl)
      have e : (Addr.mk bk o none).add (j * GoRep.size ByteArray + 0) = ⟨bk, o + j, none⟩ := by
        simp [Addr.add, GoRep.size]
      rw [e] at this
      exact hs.mono _ _ this
    exact ⟨bk, o, cap, hv, key, World.block_lt_of_cell? w _ (key 0 x rfl), hc⟩
end Go.Lm
