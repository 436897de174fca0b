/- The methods of layer 17, the places hidden. (Printed by a program of mine.) -/
import Derived.Test.YtnmaehdklmgfmaaUpF
import Derived.Test.YtnmaehdklmgfmaaLmGC
namespace Go.Proofs.Ytnmaehdklmgfmaa
open Go Go.RowKit Go.Lm
set_option linter.unusedVariables false
set_option linter.unusedSimpArgs false
set_option maxHeartbeats 4000000
set_option maxRecDepth 100000
theorem new_S (q1 q2 : Int) (W : Base) (g w : World) (F : List Atom) (H : SL W g w F) : Ret Try.prog 9 #[.agg #[.int .i64 q1, .int .i64 q2]] w fun v w' => ∃ u, v = ptr u 0 ∧ SL W g w' (upS Try.prog uty u q1 q2 2 [(1, rootU [])] :: F) :=
  (new_any q1 q2 W g w F H).mono fun _ _ ⟨u, mb, b, ib, hv, H1⟩ => ⟨u, hv, H1.upSI rfl⟩
theorem make_S (u : Nat) (q1 q2 nx : Int) (S : UL) (d : Int) (s : ByteArray) (vn : Value) (ino kind m u' gi' : Int) (vd : Value) (data : List UInt8) (target : ByteArray) (vx : Value) (xs : List XattrD) (opq : Bool) (W : Base) (g w : World) (F : List Atom) (H : SL W g w (upS Try.prog uty u q1 q2 nx S :: F))
    (e r nx2 : Int) (S2 : UL) (he : makeE S d s ⟨kind, m, u', gi', data, target, xs⟩ = e) (hS : makeU S nx d s ⟨kind, m, u', gi', data, target, xs⟩ = S2) (hr : (if e = 0 then nx else 0) = r) (hn : (if e = 0 then nx + 1 else nx) = nx2)
    (wf_d : (Lit.int .i64 d).wf = true) (hs : s.size ≤ 9223372036854775807) (hd : Is g vd data) (hx : Is g vx xs) (ht : target.size ≤ 9223372036854775807) (hno : getK S nx = none) (hnx : nx < 1000000000) (hnx0 : 0 ≤ nx) (hL : S.length < 1000000) (hE : ∀ n, getK S d = some n → n.ents.length < 1000000) :
    Ret Try.prog 11 #[ptr u 0, .int .i64 d, .string s, .agg #[vn, .int .i64 ino, .int .i64 kind, .int .i64 m, .int .i64 u', .int .i64 gi', vd, .string target, vx, .bool opq]] w fun v w' => ∃ g', Mono g g' ∧ SL W g' w' (upS Try.prog uty u q1 q2 nx2 S2 :: F) ∧ v = .tuple #[.int .i64 r, .int .i64 e] := by
  obtain ⟨mb, L, hl, H1⟩ := H.upSO
  subst hl
  refine (make_any u mb q1 q2 nx L d s vn ino kind m u' gi' vd data target vx xs opq W g w F H1 wf_d hs hd hx ht (er_none hno) (WalkArith.wf_i64 ⟨by omega, by omega⟩) hnx hnx0 (by rw [er_len] at hL; unfold maxLen; omega) (fun n hn => by have := hE n.er (getK_er_some hn); unfold maxLen; show n.er.ents.length < _; omega)).mono ?_
  rintro v w' ⟨g', nx', L', hm, H2, h1, h2, h3⟩
  rw [he] at h1 h3
  rw [hS] at h2
  exact ⟨g', hm, (by rw [← hn, ← h1]; exact H2.upSI h2), by rw [h3, hr]⟩
theorem write_S (u : Nat) (q1 q2 nx : Int) (S : UL) (r off : Int) (b : List UInt8) (vb : Value) (W : Base) (g w : World) (F : List Atom) (H : SL W g w (upS Try.prog uty u q1 q2 nx S :: F)) (e : Int) (S2 : UL) (he : writeE S r off b = e) (hS : writeU S r off b = S2) (h_b : Is g vb b) (wf_r : (Lit.int .i64 r).wf = true)
    (hdb : ∀ n, getK S r = some n → n.data.length ≤ 1000000) : Ret Try.prog 20 #[ptr u 0, .int .i64 r, .int .i64 off, vb] w fun v w' => ∃ g', Mono g g' ∧ SL W g' w' (upS Try.prog uty u q1 q2 nx S2 :: F) ∧ v = .int .i64 e := by
  obtain ⟨mb, L, hl, H1⟩ := H.upSO
  subst hl
  refine (write_any u mb q1 q2 nx L r off b vb W g w F H1 h_b wf_r (fun n hn => hdb n.er (getK_er_some hn))).mono ?_
  rintro v w' ⟨g', L', hm, H2, h2, h3⟩
  rw [he] at h3
  rw [hS] at h2
  exact ⟨g', hm, H2.upSI h2, h3⟩
theorem resize_S (u : Nat) (q1 q2 nx : Int) (S : UL) (r k : Int) (W : Base) (g w : World) (F : List Atom) (H : SL W g w (upS Try.prog uty u q1 q2 nx S :: F)) (e : Int) (S2 : UL) (he : resizeE S r k = e) (hS : resizeU S r k = S2) (wf_r : (Lit.int .i64 r).wf = true) :
    Ret Try.prog 19 #[ptr u 0, .int .i64 r, .int .i64 k] w fun v w' => ∃ g', Mono g g' ∧ SL W g' w' (upS Try.prog uty u q1 q2 nx S2 :: F) ∧ v = .int .i64 e := by
  obtain ⟨mb, L, hl, H1⟩ := H.upSO
  subst hl
  refine (resize_any u mb q1 q2 nx L r k W g w F H1 wf_r).mono ?_
  rintro v w' ⟨g', L', hm, H2, h2, h3⟩
  rw [he] at h3
  rw [hS] at h2
  exact ⟨g', hm, H2.upSI h2, h3⟩
theorem link_S (u : Nat) (q1 q2 nx : Int) (S : UL) (d : Int) (s : ByteArray) (r : Int) (W : Base) (g w : World) (F : List Atom) (H : SL W g w (upS Try.prog uty u q1 q2 nx S :: F)) (e : Int) (S2 : UL) (he : linkE S d s r = e) (hS : linkU S d s r = S2) (wf_d : (Lit.int .i64 d).wf = true) (hs : s.size ≤ 9223372036854775807) (wf_r : (Lit.int .i64 r).wf = true)
    (hlk : ∀ n, getK S r = some n → 0 ≤ n.links ∧ n.links < 1000000000) (hE : ∀ n, getK S d = some n → n.ents.length < 1000000) : Ret Try.prog 17 #[ptr u 0, .int .i64 d, .string s, .int .i64 r] w fun v w' => ∃ g', Mono g g' ∧ SL W g' w' (upS Try.prog uty u q1 q2 nx S2 :: F) ∧ v = .int .i64 e := by
  obtain ⟨mb, L, hl, H1⟩ := H.upSO
  subst hl
  refine (link_any u mb q1 q2 nx L d s r W g w F H1 wf_d hs wf_r (fun n hn => hlk n.er (getK_er_some hn)) (fun n hn => by have := hE n.er (getK_er_some hn); unfold maxLen; show n.er.ents.length < _; omega)).mono ?_
  rintro v w' ⟨g', L', hm, H2, h2, h3⟩
  rw [he] at h3
  rw [hS] at h2
  exact ⟨g', hm, H2.upSI h2, h3⟩
theorem remove_S (u : Nat) (q1 q2 nx : Int) (S : UL) (d : Int) (s : ByteArray) (W : Base) (g w : World) (F : List Atom) (H : SL W g w (upS Try.prog uty u q1 q2 nx S :: F)) (e : Int) (S2 : UL) (he : removeE S d s = e) (hS : removeS S d s = S2) (wf_d : (Lit.int .i64 d).wf = true) (hs : s.size ≤ 9223372036854775807)
    (hex : ∀ n x, getK S d = some n → getK n.ents s = some x → ∃ m, getK S x = some m ∧ m.ents = [] ∧ 0 ≤ m.links ∧ m.links < 1000000000 ∧ (Lit.int .i64 x).wf = true) : Ret Try.prog 18 #[ptr u 0, .int .i64 d, .string s] w fun v w' => ∃ g', Mono g g' ∧ SL W g' w' (upS Try.prog uty u q1 q2 nx S2 :: F) ∧ v = .int .i64 e := by
  obtain ⟨mb, L, hl, H1⟩ := H.upSO
  subst hl
  refine (remove_small u mb q1 q2 nx L d s W g w F H1 wf_d hs (fun n x hn hx => by
    obtain ⟨m, h1, h2, h3, h4, h5⟩ := hex n.er x (getK_er_some hn) hx
    obtain ⟨m', h6, h7⟩ := er_get h1
    subst h7
    exact ⟨m', h6, h2, h3, h4, h5⟩)).mono ?_
  rintro v w' ⟨g', L', hm, H2, h2, h3⟩
  rw [he] at h3
  rw [hS] at h2
  exact ⟨g', hm, H2.upSI h2, h3⟩
theorem read_S (u : Nat) (q1 q2 nx : Int) (S : UL) (r off k : Int) (W : Base) (g w : World) (F : List Atom) (H : SL W g w (upS Try.prog uty u q1 q2 nx S :: F)) (e : Int) (b : List UInt8) (he : readE S r off k = e) (hS : readU S r off k = b) (wf_r : (Lit.int .i64 r).wf = true) (hk : k ≤ 1000000000) :
    Ret Try.prog 21 #[ptr u 0, .int .i64 r, .int .i64 off, .int .i64 k] w fun v w' => ∃ vb, v = .tuple #[vb, .int .i64 e] ∧ Is (graft g w w') vb b ∧ Le w w' := by
  obtain ⟨mb, L, hl, H1⟩ := H.upSO
  subst hl
  refine (read_any u mb q1 q2 nx L r off k g w H1.sees (H1.upR0 kI) wf_r hk).mono ?_
  rintro v w' ⟨vb, h1, h2, h3⟩
  rw [he] at h1
  rw [hS] at h2
  exact ⟨vb, h1, h2, h3⟩
theorem stat_S (u : Nat) (q1 q2 nx : Int) (S : UL) (r : Int) (n : UNode) (W : Base) (g w : World) (F : List Atom) (H : SL W g w (upS Try.prog uty u q1 q2 nx S :: F)) (hr : getK S r = some n) (hb : n.data.length + n.target.size + n.ents.length ≤ 9223372036854775807) (wf_r : (Lit.int .i64 r).wf = true) :
    Ret Try.prog 12 #[ptr u 0, .int .i64 r] w fun v w' => v = .tuple #[.agg #[.int .i64 n.kind, .int .i64 n.mode, .int .i64 n.uid, .int .i64 n.gid, .int .i64 n.links, .int .i64 (n.data.length + n.target.size + n.ents.length)], .int .i64 0] ∧ Le w w' := by
  obtain ⟨mb, L, hl, H1⟩ := H.upSO
  subst hl
  obtain ⟨n', h1, h2⟩ := er_get hr
  subst h2
  exact stat_yes u mb q1 q2 nx L r n' g w H1.sees (H1.upR0 kI) wf_r h1 hb
theorem statno_S (u : Nat) (q1 q2 nx : Int) (S : UL) (r : Int) (W : Base) (g w : World) (F : List Atom) (H : SL W g w (upS Try.prog uty u q1 q2 nx S :: F)) (hr : getK S r = none) (wf_r : (Lit.int .i64 r).wf = true) :
    Ret Try.prog 12 #[ptr u 0, .int .i64 r] w fun v w' => v = .tuple #[.agg #[.int .i64 0, .int .i64 0, .int .i64 0, .int .i64 0, .int .i64 0, .int .i64 0], .int .i64 1] ∧ Le w w' := by
  obtain ⟨mb, L, hl, H1⟩ := H.upSO
  subst hl
  exact stat_no u mb q1 q2 nx L r g w H1.sees (H1.upR0 kI) wf_r (er_none hr)
theorem look_S (u : Nat) (q1 q2 nx : Int) (S : UL) (r : Int) (s : ByteArray) (n m : UNode) (x : Int) (W : Base) (g w : World) (F : List Atom) (H : SL W g w (upS Try.prog uty u q1 q2 nx S :: F)) (hr : getK S r = some n) (hk : n.kind = 1) (hs0 : getK n.ents s = some x) (hx : getK S x = some m) (wf_r : (Lit.int .i64 r).wf = true) (wf_x : (Lit.int .i64 x).wf = true) (hs : s.size ≤ 9223372036854775807) :
    Ret Try.prog 22 #[ptr u 0, .int .i64 r, .string s] w fun v w' => v = .tuple #[.agg #[.string s, .int .i64 m.kind, .int .i64 x], .int .i64 0] ∧ Le w w' := by
  obtain ⟨mb, L, hl, H1⟩ := H.upSO
  subst hl
  obtain ⟨n', h1, h2⟩ := er_get hr
  subst h2
  obtain ⟨m', h3, h4⟩ := er_get hx
  subst h4
  exact look_yes u mb q1 q2 nx L r s n' x m' g w H1.sees (H1.upR0 kI) wf_r wf_x hs h1 (beq_iff_eq.2 hk) hs0 h3
end Go.Proofs.Ytnmaehdklmgfmaa
