/- Some few states of an upper branch. Plain. General: no program in sight. -/
import Derived.Test.YtnmaehdklmgfmaaLmUpS
namespace Go.Lm
open Go Go.RowKit
theorem validN_list (s : ByteArray) : validN s = if (s.data.toList.length : Int) > 255 then 23 else if (s.data.toList == [] || (s.data.toList == [46] || s.data.toList == [46, 46])) || s.data.toList.any badC then 22 else 0 := by
  unfold validN dots badB
  simp only [Lib.toList_data, List.drop_zero, size_list]
def fileN (d : List UInt8) (lk : Int) : UNode := ⟨2, 0, 0, 0, d, ⟨#[]⟩, [], false, [], 0, lk⟩
theorem ofGet {κ α : Type} [MKey κ] {S : List (κ × α)} {r : κ} {m : α} {Q : α → Prop} (h : getK S r = some m) (hq : Q m) : ∀ n, getK S r = some n → Q n := fun n hn => by
  rw [h] at hn; cases hn; exact hq
theorem ofGet2 {S : UL} {d : Int} {s : ByteArray} {n m : UNode} {x : Int} (h1 : getK S d = some n) (h2 : getK n.ents s = some x) (h3 : getK S x = some m) (h4 : m.ents = []) (h5 : 0 ≤ m.links) (h6 : m.links < 1000000000) (h7 : (Lit.int .i64 x).wf = true) :
    ∀ n x, getK S d = some n → getK n.ents s = some x → ∃ m, getK S x = some m ∧ m.ents = [] ∧ 0 ≤ m.links ∧ m.links < 1000000000 ∧ (Lit.int .i64 x).wf = true := fun n' x' hn hx => by
  rw [h1] at hn; cases hn
  rw [h2] at hx; cases hx
  exact ⟨m, h3, h4, h5, h6, h7⟩
example : validN ⟨#[97]⟩ = 0 := by rw [validN_list]; rfl
example : getK [((⟨#[97]⟩ : ByteArray), (2 : Int)), ((⟨#[98]⟩ : ByteArray), (3 : Int))] ⟨#[98]⟩ = some 3 := by rfl
example : getK [((⟨#[97]⟩ : ByteArray), (2 : Int)), ((⟨#[98]⟩ : ByteArray), (3 : Int))] ⟨#[98]⟩ = some 3 := by decide
example : putK [((⟨#[97]⟩ : ByteArray), (2 : Int))] ⟨#[98]⟩ 2 = [((⟨#[98]⟩ : ByteArray), (2 : Int)), ((⟨#[97]⟩ : ByteArray), (2 : Int))] := by rfl
def abA : ByteArray := ⟨#[97]⟩
theorem mk1 (d : List UInt8) (s : ByteArray) (hs : validN s = 0) (hd : d.length ≤ 4096) : makeE [(1, rootU [])] 1 s ⟨2, 0, 0, 0, d, ⟨#[]⟩, []⟩ = 0 := by
  have hd' : (d.length : Int) ≤ 4096 := by omega
  simp [makeE, freshU, getK, rootU, hs, goodM, goodN, noB, may3, mayX, mayGo, hd']
theorem mk1U (d : List UInt8) (s : ByteArray) (hs : validN s = 0) (hd : d.length ≤ 4096) : makeU [(1, rootU [])] 2 1 s ⟨2, 0, 0, 0, d, ⟨#[]⟩, []⟩ = [(2, fileN d 1), (1, rootU [(s, 2)])] := by
  unfold makeU
  rw [if_pos (mk1 d s hs hd)]
  rfl
theorem lk1 (d : List UInt8) (s t : ByteArray) (hs : validN t = 0) (hd : s ≠ t) : linkE [(2, fileN d 1), (1, rootU [(s, 2)])] 1 t 2 = 0 := by
  simp [linkE, freshU, getK, rootU, fileN, hs, hd]
theorem lk1U (d : List UInt8) (s t : ByteArray) (hs : validN t = 0) (hd : s ≠ t) : linkU [(2, fileN d 1), (1, rootU [(s, 2)])] 1 t 2 = [(2, fileN d 2), (1, rootU [(t, 2), (s, 2)])] := by
  unfold linkU
  rw [if_pos (lk1 d s t hs hd)]
  simp [getK, rootU, fileN, setK, putK, delK, hd]
theorem rm1 (d : List UInt8) (s t : ByteArray) (hd : s ≠ t) : removeE [(2, fileN d 2), (1, rootU [(t, 2), (s, 2)])] 1 s = 0 := by
  simp [removeE, lookE, getK, rootU, Ne.symm hd]
theorem rm1S (d : List UInt8) (s t : ByteArray) (hd : s ≠ t) : removeS [(2, fileN d 2), (1, rootU [(t, 2), (s, 2)])] 1 s = [(2, fileN d 1), (1, rootU [(t, 2)])] := by
  simp [removeS, letS, getK, rootU, fileN, setK, delK, Ne.symm hd]
theorem wr1 (d c : List UInt8) (lk : Int) (e : List (ByteArray × Int)) (off : Int) : writeE [(2, fileN d lk), (1, rootU e)] 2 off c = if off < 0 then 1 else if off > 4096 ∨ (c.length : Int) > 4096 - off then 3 else 0 := by
  simp [writeE, fileE, getK, fileN]
theorem wr1U (d c : List UInt8) (lk : Int) (e : List (ByteArray × Int)) (off : Int) : writeU [(2, fileN d lk), (1, rootU e)] 2 off c = [(2, fileN (if writeE [(2, fileN d lk), (1, rootU e)] 2 off c = 0 ∧ (c.length : Int) ≠ 0 then writeL d off c else d) lk), (1, rootU e)] := by
  unfold writeU
  split
  · simp [getK, setK, fileN]
  · rfl
theorem rs1 (d : List UInt8) (lk : Int) (e : List (ByteArray × Int)) (k : Int) : resizeE [(2, fileN d lk), (1, rootU e)] 2 k = if k < 0 then 1 else if k > 4096 then 3 else 0 := by
  simp [resizeE, fileE, getK, fileN]
theorem rs1U (d : List UInt8) (lk : Int) (e : List (ByteArray × Int)) (k : Int) : resizeU [(2, fileN d lk), (1, rootU e)] 2 k = [(2, fileN (if resizeE [(2, fileN d lk), (1, rootU e)] 2 k = 0 then sizedL d k else d) lk), (1, rootU e)] := by
  unfold resizeU
  split
  · simp [getK, setK, fileN]
  · rfl
theorem rd1 (d : List UInt8) (lk : Int) (e : List (ByteArray × Int)) : readE [(2, fileN d lk), (1, rootU e)] 2 0 4096 = 0 := by
  simp [readE, fileE, getK, fileN]
theorem rd1U (d : List UInt8) (lk : Int) (e : List (ByteArray × Int)) (hd : d.length ≤ 4096) : readU [(2, fileN d lk), (1, rootU e)] 2 0 4096 = d := by
  unfold readU
  rw [if_pos (rd1 d lk e)]
  have h1 : getK [(2, fileN d lk), (1, rootU e)] (2 : Int) = some (fileN d lk) := rfl
  rw [h1]
  show (if (0 : Int) ≥ d.length then [] else (d.drop (0 : Int).toNat).take ((0 + min (4096 : Int) ((d.length : Int) - 0)).toNat - (0 : Int).toNat)) = d
  split
  · rename_i h
    have : d = [] := List.eq_nil_of_length_eq_zero (by omega)
    rw [this]
  · have e1 : ((0 + min (4096 : Int) ((d.length : Int) - 0)).toNat - (0 : Int).toNat) = d.length := by omega
    rw [e1]
    simp
end Go.Lm
namespace Go.Lm
open Go Go.RowKit
theorem sizedL_same (d : List UInt8) (n : Int) (h : n = d.length) : sizedL d n = d := by
  subst h
  unfold sizedL copyL
  simp
theorem sizedL_more (d : List UInt8) (n : Int) (h : (d.length : Int) ≤ n) : sizedL d n = d ++ List.replicate (n.toNat - d.length) 0 := by
  unfold sizedL copyL
  have : d.length ≤ n.toNat := by omega
  simp only [List.length_replicate, Nat.sub_zero, List.take_zero, List.nil_append, Nat.zero_add, Nat.min_eq_left this, List.drop_replicate]
  rw [List.take_of_length_le this]
theorem writeL_end (d c : List UInt8) : writeL d (d.length : Int) c = d ++ c := by
  unfold writeL
  rw [sizedL_more d _ (by omega)]
  unfold copyL
  have e1 : (max (d.length : Int) (d.length + c.length)).toNat - d.length = c.length := by omega
  rw [e1]
  have e2 : (d.length : Int).toNat = d.length := by omega
  rw [e2]
  simp
theorem wrEnd (d c : List UInt8) (lk : Int) (e : List (ByteArray × Int)) (off : Int) (ho : off = d.length) (h : d.length + c.length ≤ 4096) : writeE [(2, fileN d lk), (1, rootU e)] 2 off c = 0 := by
  subst ho
  rw [wr1, if_neg (by omega), if_neg (by omega)]
theorem wrEndU (d c : List UInt8) (lk : Int) (e : List (ByteArray × Int)) (off : Int) (ho : off = d.length) (h : d.length + c.length ≤ 4096) : writeU [(2, fileN d lk), (1, rootU e)] 2 off c = [(2, fileN (d ++ c) lk), (1, rootU e)] := by
  rw [wr1U, wrEnd d c lk e off ho h]
  subst ho
  by_cases hc : (c.length : Int) = 0
  · have : c = [] := List.eq_nil_of_length_eq_zero (by omega)
    subst this
    simp
  · rw [if_pos ⟨rfl, hc⟩, writeL_end]
theorem bstr_app (a b : List UInt8) : bstr (a ++ b) = bstr a ++ bstr b := by
  unfold bstr
  apply ByteArray.ext
  simp
theorem bstr_app_eq (a b : List UInt8) : ((bstr (a ++ b)).toList == (bstr a ++ bstr b).toList) = true := by rw [bstr_app]; simp
end Go.Lm
namespace Go.Lm
theorem bstr_size (l : List UInt8) : (bstr l).size = l.length := by unfold bstr; simp [ByteArray.size]
end Go.Lm
