/- New and Make of layer 17. (Printed by a program of mine.) -/
import Derived.Test.YtnmaehdklmgfmaaUpC
namespace Go.Proofs.Ytnmaehdklmgfmaa
open Go Go.RowKit Go.Lm
set_option linter.unusedVariables false in
set_option linter.unusedSimpArgs false in
set_option maxHeartbeats 4000000 in
set_option maxRecDepth 100000 in
theorem new_any (q1 q2 : Int) (W : Base) (g w : World) (F : List Atom) (H : SL W g w (F))  : Ret Try.prog 9 #[(.agg #[(.int .i64 q1), (.int .i64 q2)])] w fun v w' => ∃ u mb b ib, v = ptr u 0 ∧ SL W g w' (upA Try.prog uty u q1 q2 mb 2 [(1, root0 b ib)] :: F) := by
  refine enter (args := [(.agg #[(.int .i64 q1), (.int .i64 q2)])]) Try.func9 rfl rfl rfl ?_
  refine C_seq ?_
  refine C_region ?_
  refine S_box rfl rfl rfl rfl rfl _ rfl fun b1 w1 n1 => ?_
  replace H := H.new n1
  refine Rv (Go.Value.pointer none) w1 ?_
  refine wpR_nil ?_
  refine E_then_normal ?_
  refine C_seq ?_
  refine C_region ?_
  refine Rv (.agg #[(.int .i64 493), (.int .i64 0), (.int .i64 0)]) w1 ?_
  refine Rv (.agg #[(.slice none 0 0), (.int .i64 0), (.int .i64 1), (.int .i64 493), (.int .i64 0), (.int .i64 0), (.slice none 0 0), (.string (⟨#[]⟩)), (.slice none 0 0), (.bool false)]) w1 ?_
  refine S_makeMap ByteArray (k := 9) H rfl rfl rfl rfl fun b2 w2 Hn => ?_
  replace H := Hn
  clear Hn
  refine Rv (.agg #[(.slice none 0 0), (.int .i64 0), (.int .i64 1), (.int .i64 493), (.int .i64 0), (.int .i64 0), (.slice none 0 0), (.string (⟨#[]⟩)), (.slice none 0 0), (.bool false), (.map (some b2)), (.int .i64 0), (.int .i64 1)]) w2 ?_
  refine S_box rfl rfl rfl rfl rfl _ rfl fun b3 w3 n2 => ?_
  replace H := H.new n2
  refine Rv (ptr b3 0) w3 ?_
  refine wpR_nil ?_
  refine E_then_normal ?_
  refine C_seq ?_
  refine Cs [(3, (ptr b3 0)), (2, (Go.Value.pointer none)), (1, (ptr b1 0)), (0, (.agg #[(.int .i64 q1), (.int .i64 q2)]))] ?_
  refine C_region ?_
  refine S_load (run_load_row (H.blk 2) Try.underlying33 rfl (vs := [(.int .i64 q1), (.int .i64 q2)]) (by kernel_rfl) rfl) rfl rfl rfl rfl rfl ?_
  refine S_makeMap Int (k := 3) H rfl rfl rfl rfl fun b4 w4 Hn => ?_
  replace H := Hn
  clear Hn
  refine Rv (ptr b3 0) w4 ?_
  obtain ⟨w5, hu1, Hn⟩ := SL.mapPut (P := Try.prog) H kI Try.underlying83 (by decide) 1 (wf_ok (by decide)) (ptr b3 0)
  refine R_none (v := undef) rfl (by kernel_rfl) rfl (.inr (X_insert rfl rfl rfl rfl hu1)) ?_
  replace H := Hn
  clear Hn
  refine Rv (.map (some b4)) w5 ?_
  refine Rv (.agg #[(.int .i64 q1), (.int .i64 q2), (.map (some b4)), (.int .i64 2)]) w5 ?_
  refine S_box rfl rfl rfl rfl rfl _ rfl fun b5 w6 n3 => ?_
  replace H := H.new n3
  refine Rv (ptr b5 0) w6 ?_
  refine wpR_nil ?_
  refine E_then_normal ?_
  refine C_ret ?_
  refine E_ret (res_one rfl rfl) ⟨_, rfl, ?_⟩
  replace H := H.pick 3
  replace H := H.pick 3
  replace H := H.pick 3
  replace H := H.pick 3
  replace H := SL.mkUp (P := Try.prog) (T := uty) (b := b3) (ib := b2) H
  exact ⟨_, _, _, _, rfl, (H.keep1 1)⟩

set_option linter.unusedVariables false in
set_option linter.unusedSimpArgs false in
set_option maxHeartbeats 4000000 in
set_option maxRecDepth 100000 in
theorem make_any (u mb : Nat) (q1 q2 nx : Int) (L : List (Int × LNode)) (d : Int) (s : ByteArray) (vn : Value) (ino kind m u' gi' : Int) (vd : Value) (data : List UInt8) (target : ByteArray) (vx : Value) (xs : List XattrD) (opq : Bool) (W : Base) (g w : World) (F : List Atom) (H : SL W g w ((upA Try.prog uty u q1 q2 mb nx L) :: F))  (wf_d : (Lit.int .i64 d).wf = true) (hs : s.size ≤ 9223372036854775807) (hd : Is g vd data) (hx : Is g vx xs) (ht : target.size ≤ 9223372036854775807) (hno : getK L nx = none) (wf_nx : (Lit.int .i64 nx).wf = true) (hnx : nx < 1000000000) (hnx0 : 0 ≤ nx) (hL : L.length < maxLen) (hE : ∀ n, getK L d = some n → n.ents.length < maxLen) : Ret Try.prog 11 #[(ptr u 0), (.int .i64 d), (.string s), (.agg #[vn, (.int .i64 ino), (.int .i64 kind), (.int .i64 m), (.int .i64 u'), (.int .i64 gi'), vd, (.string target), vx, (.bool opq)])] w fun v w' => ∃ g' nx' L', Mono g g' ∧ SL W g' w' (upA Try.prog uty u q1 q2 mb nx' L' :: F) ∧ nx' = (if makeE (er L) d s ⟨kind, m, u', gi', data, target, xs⟩ = 0 then nx + 1 else nx) ∧ er L' = makeU (er L) nx d s ⟨kind, m, u', gi', data, target, xs⟩ ∧ v = .tuple #[.int .i64 (if makeE (er L) d s ⟨kind, m, u', gi', data, target, xs⟩ = 0 then nx else 0), .int .i64 (makeE (er L) d s ⟨kind, m, u', gi', data, target, xs⟩)] := by
  have ln_hd := hd.len_le
  have ln_hx := hx.len_le
  refine enter (args := [(ptr u 0), (.int .i64 d), (.string s), (.agg #[vn, (.int .i64 ino), (.int .i64 kind), (.int .i64 m), (.int .i64 u'), (.int .i64 gi'), vd, (.string target), vx, (.bool opq)])]) Try.func11 rfl rfl rfl ?_
  refine C_seq ?_
  refine C_region ?_
  refine S_box rfl rfl rfl rfl rfl _ rfl fun b1 w1 n1 => ?_
  replace H := H.new n1
  refine Rv (.int .i64 0) w1 ?_
  refine Rv (.int .i64 0) w1 ?_
  refine wpR_nil ?_
  refine E_then_normal ?_
  refine C_seq ?_
  refine C_region ?_
  refine Rv (ptr u 0) w1 ?_
  refine Rv (.int .i64 d) w1 ?_
  refine Rv (.string s) w1 ?_
  by_cases hf1 : freshE L d s = 0
  · obtain ⟨n2, hr1⟩ := fresh_dir hf1
    obtain ⟨l1_n2, l2_n2, l3_n2, l4_n2⟩ := ((H.upR 1 kI).nodes _ _ hr1).lens
    obtain ⟨fk1, fv1, fe1⟩ := fresh_some hr1 hf1
    have fb1 := beq_iff_eq.2 fk1
    refine Rc #[(ptr u 0), (.int .i64 d), (.string s)] w1 (fresh_yes u mb q1 q2 nx L d s n2 _ _ H.sees (H.upR 1 kI) wf_d (by first | omega | (simp only [maxLen] at *; omega)) hr1 hf1) ?_
    rintro _ w2 ⟨rfl, l1⟩
    replace H := H.le l1
    refine Rv (.tuple #[(ptr n2.blk 0), (.int .i64 0)]) w2 ?_
    refine Rv (ptr n2.blk 0) w2 ?_
    refine Rv (.int .i64 0) w2 ?_
    refine Rv (ptr n2.blk 0) w2 ?_
    refine Rv (.int .i64 0) w2 ?_
    refine wpR_nil ?_
    refine E_then_normal ?_
    refine C_seq ?_
    refine C_block ?_
    refine C_seq ?_
    refine Cs [(11, (.int .i64 0)), (10, (ptr n2.blk 0)), (9, (.int .i64 0)), (8, (.int .i64 0)), (7, (ptr b1 0)), (0, (ptr u 0)), (1, (.int .i64 d)), (2, (.string s)), (3, (.agg #[vn, (.int .i64 ino), (.int .i64 kind), (.int .i64 m), (.int .i64 u'), (.int .i64 gi'), vd, (.string target), vx, (.bool opq)]))] ?_
    refine C_region ?_
    refine Rv (.int .i64 0) w2 ?_
    refine Rv (.bool false) w2 ?_
    refine Rv (.bool false) w2 ?_
    refine wpR_nil ?_
    refine E_then_normal ?_
    refine C_false rfl ?_
    refine C_seq ?_
    refine Cs [(21, (.bool false)), (11, (.int .i64 0)), (10, (ptr n2.blk 0)), (9, (.int .i64 0)), (8, (.int .i64 0)), (7, (ptr b1 0)), (0, (ptr u 0)), (1, (.int .i64 d)), (2, (.string s)), (3, (.agg #[vn, (.int .i64 ino), (.int .i64 kind), (.int .i64 m), (.int .i64 u'), (.int .i64 gi'), vd, (.string target), vx, (.bool opq)]))] ?_
    refine C_region ?_
    refine S_load (run_load_row (H.blk 0) Try.underlying28 rfl (vs := [vn, (.int .i64 ino), (.int .i64 kind), (.int .i64 m), (.int .i64 u'), (.int .i64 gi'), vd, (.string target), vx, (.bool opq)]) (by kernel_rfl) rfl) rfl rfl rfl rfl rfl ?_
    refine Rc #[(.agg #[vn, (.int .i64 ino), (.int .i64 kind), (.int .i64 m), (.int .i64 u'), (.int .i64 gi'), vd, (.string target), vx, (.bool opq)])] w2 (good_any vn ino kind m u' gi' vd data target vx xs opq _ _ H.sees hd hx (by first | omega | (simp only [maxLen] at *; omega))) ?_
    rintro _ w3 ⟨rfl, l2⟩
    replace H := H.le l2
    refine Rv (.bool (!(goodN kind m u' gi' data target xs))) w3 ?_
    refine Rv (.bool (!(goodN kind m u' gi' data target xs))) w3 ?_
    refine wpR_nil ?_
    refine E_then_normal ?_
    refine C_cond rfl (fun c1 => ?_) (fun c1 => ?_)
    · refine C_seq ?_
      refine Cs [(25, (.bool (!(goodN kind m u' gi' data target xs)))), (21, (.bool false)), (11, (.int .i64 0)), (10, (ptr n2.blk 0)), (9, (.int .i64 0)), (8, (.int .i64 0)), (7, (ptr b1 0)), (0, (ptr u 0)), (1, (.int .i64 d)), (2, (.string s)), (3, (.agg #[vn, (.int .i64 ino), (.int .i64 kind), (.int .i64 m), (.int .i64 u'), (.int .i64 gi'), vd, (.string target), vx, (.bool opq)]))] ?_
      refine C_region ?_
      refine Rv (.int .i64 0) w3 ?_
      refine Rv (.int .i64 1) w3 ?_
      refine wpR_nil ?_
      refine E_then_normal ?_
      refine C_ret ?_
      refine E_block_ret ?_
      refine E_then_ret ?_
      refine E_ret (res_two rfl rfl rfl) ⟨_, rfl, ?_⟩
      have er1 := getK_er_some hr1
      replace H := H.pick 1
      have ef := freshE_er L d s
      refine ⟨_, _, _, (Mono.refl _), (H.keep1 1), ?_, ?_, ?_⟩
      · (simp only [makeU, makeE, goodM, newU, er_setK, er_cons]; first | (simp_all; done) | (simp_all; omega))
      · (simp only [makeU, makeE, goodM, newU, er_setK, er_cons]; first | (simp_all; done) | (simp_all; omega))
      · refine tup_ii ?_ ?_ <;> (simp only [makeU, makeE, goodM, newU, er_setK, er_cons]; first | (simp_all; done) | (simp_all; omega))
    · refine C_skip ?_
      refine E_block_normal ?_
      refine E_then_normal ?_
      refine C_seq ?_
      refine Cs [(25, (.bool (!(goodN kind m u' gi' data target xs)))), (21, (.bool false)), (11, (.int .i64 0)), (10, (ptr n2.blk 0)), (9, (.int .i64 0)), (8, (.int .i64 0)), (7, (ptr b1 0)), (0, (ptr u 0)), (1, (.int .i64 d)), (2, (.string s)), (3, (.agg #[vn, (.int .i64 ino), (.int .i64 kind), (.int .i64 m), (.int .i64 u'), (.int .i64 gi'), vd, (.string target), vx, (.bool opq)]))] ?_
      have hgd : goodN kind m u' gi' data target xs = true := by simpa using c1
      obtain ⟨gl1, gl2, gl3, gl4, gl5⟩ := good_lens hgd
      have gl6 := fun x hx => Nat.le_trans (gl4 x hx).1 (by decide : 200 ≤ 1000000000000)
      have hE1 := hE _ hr1
      refine C_drawT 12 [fun _ v => v = (ptr b1 2), fun _ v => v = (.int .i64 kind), fun _ v => v = (ptr b1 3), fun _ v => v = (.agg #[(.int .i64 m), (.int .i64 u'), (.int .i64 gi')]), fun _ v => v = (ptr b1 6), fun _ v => v = vd, fun w v => Is (graft g w3 w) v (data : List UInt8), fun _ v => v = (ptr b1 7), fun _ v => v = (.string target), fun _ v => v = (ptr b1 8), fun _ v => v = vx, fun w v => Is (graft g w3 w) v (xs : List XattrD)] (by kernel_rfl) (by kernel_rfl) (by kernel_rfl) (by kernel_rfl) ⟨stab_exact _, stab_exact _, stab_exact _, stab_exact _, stab_exact _, stab_exact _, stab_is H.sees, stab_exact _, stab_exact _, stab_exact _, stab_exact _, stab_is H.sees, trivial⟩ ⟨?_, ?_, ?_, ?_, ?_, ?_, ?_, ?_, ?_, ?_, ?_, ?_, trivial⟩ ?_
      · intro aq wd ld hfd hdd
        have hfd := Fr.cast (s' := [(25, (.bool (!(goodN kind m u' gi' data target xs)))), (21, (.bool false)), (11, (.int .i64 0)), (10, (ptr n2.blk 0)), (9, (.int .i64 0)), (8, (.int .i64 0)), (7, (ptr b1 0)), (0, (ptr u 0)), (1, (.int .i64 d)), (2, (.string s)), (3, (.agg #[vn, (.int .i64 ino), (.int .i64 kind), (.int .i64 m), (.int .i64 u'), (.int .i64 gi'), vd, (.string target), vx, (.bool opq)]))]) hfd (by kernel_rfl)
        exact G_val (v := (ptr b1 2)) (w' := wd) hfd rfl (by kernel_rfl) (by kernel_rfl) (Le.refl _) rfl
      · intro aq wd ld hfd hdd
        have hfd := Fr.cast (s' := [(25, (.bool (!(goodN kind m u' gi' data target xs)))), (21, (.bool false)), (11, (.int .i64 0)), (10, (ptr n2.blk 0)), (9, (.int .i64 0)), (8, (.int .i64 0)), (7, (ptr b1 0)), (0, (ptr u 0)), (1, (.int .i64 d)), (2, (.string s)), (3, (.agg #[vn, (.int .i64 ino), (.int .i64 kind), (.int .i64 m), (.int .i64 u'), (.int .i64 gi'), vd, (.string target), vx, (.bool opq)]))]) hfd (by kernel_rfl)
        obtain ⟨e0, _⟩ := hdd
        have hfd := Fr.add (t := 29) (v := (ptr b1 2)) hfd e0
        exact G_val hfd rfl (by kernel_rfl) (load_ev (run_load_one ((H.le ld).blk 0) Try.underlying3 rfl rfl) rfl rfl) (Le.refl _) rfl
      · intro aq wd ld hfd hdd
        have hfd := Fr.cast (s' := [(25, (.bool (!(goodN kind m u' gi' data target xs)))), (21, (.bool false)), (11, (.int .i64 0)), (10, (ptr n2.blk 0)), (9, (.int .i64 0)), (8, (.int .i64 0)), (7, (ptr b1 0)), (0, (ptr u 0)), (1, (.int .i64 d)), (2, (.string s)), (3, (.agg #[vn, (.int .i64 ino), (.int .i64 kind), (.int .i64 m), (.int .i64 u'), (.int .i64 gi'), vd, (.string target), vx, (.bool opq)]))]) hfd (by kernel_rfl)
        exact G_val (v := (ptr b1 3)) (w' := wd) hfd rfl (by kernel_rfl) (by kernel_rfl) (Le.refl _) rfl
      · intro aq wd ld hfd hdd
        have hfd := Fr.cast (s' := [(25, (.bool (!(goodN kind m u' gi' data target xs)))), (21, (.bool false)), (11, (.int .i64 0)), (10, (ptr n2.blk 0)), (9, (.int .i64 0)), (8, (.int .i64 0)), (7, (ptr b1 0)), (0, (ptr u 0)), (1, (.int .i64 d)), (2, (.string s)), (3, (.agg #[vn, (.int .i64 ino), (.int .i64 kind), (.int .i64 m), (.int .i64 u'), (.int .i64 gi'), vd, (.string target), vx, (.bool opq)]))]) hfd (by kernel_rfl)
        obtain ⟨e2, _⟩ := hdd
        have hfd := Fr.add (t := 31) (v := (ptr b1 3)) hfd e2
        exact G_val hfd rfl (by kernel_rfl) (load_ev (run_load_row ((H.le ld).blk 0) Try.underlying24 rfl (vs := [(.int .i64 m), (.int .i64 u'), (.int .i64 gi')]) (by kernel_rfl) rfl) rfl rfl) (Le.refl _) rfl
      · intro aq wd ld hfd hdd
        have hfd := Fr.cast (s' := [(25, (.bool (!(goodN kind m u' gi' data target xs)))), (21, (.bool false)), (11, (.int .i64 0)), (10, (ptr n2.blk 0)), (9, (.int .i64 0)), (8, (.int .i64 0)), (7, (ptr b1 0)), (0, (ptr u 0)), (1, (.int .i64 d)), (2, (.string s)), (3, (.agg #[vn, (.int .i64 ino), (.int .i64 kind), (.int .i64 m), (.int .i64 u'), (.int .i64 gi'), vd, (.string target), vx, (.bool opq)]))]) hfd (by kernel_rfl)
        exact G_val (v := (ptr b1 6)) (w' := wd) hfd rfl (by kernel_rfl) (by kernel_rfl) (Le.refl _) rfl
      · intro aq wd ld hfd hdd
        have hfd := Fr.cast (s' := [(25, (.bool (!(goodN kind m u' gi' data target xs)))), (21, (.bool false)), (11, (.int .i64 0)), (10, (ptr n2.blk 0)), (9, (.int .i64 0)), (8, (.int .i64 0)), (7, (ptr b1 0)), (0, (ptr u 0)), (1, (.int .i64 d)), (2, (.string s)), (3, (.agg #[vn, (.int .i64 ino), (.int .i64 kind), (.int .i64 m), (.int .i64 u'), (.int .i64 gi'), vd, (.string target), vx, (.bool opq)]))]) hfd (by kernel_rfl)
        obtain ⟨e4, _⟩ := hdd
        have hfd := Fr.add (t := 33) (v := (ptr b1 6)) hfd e4
        exact G_val hfd rfl (by kernel_rfl) (load_ev (run_load_one ((H.le ld).blk 0) Try.underlying25 rfl rfl) rfl rfl) (Le.refl _) rfl
      · intro aq wd ld hfd hdd
        have hfd := Fr.cast (s' := [(25, (.bool (!(goodN kind m u' gi' data target xs)))), (21, (.bool false)), (11, (.int .i64 0)), (10, (ptr n2.blk 0)), (9, (.int .i64 0)), (8, (.int .i64 0)), (7, (ptr b1 0)), (0, (ptr u 0)), (1, (.int .i64 d)), (2, (.string s)), (3, (.agg #[vn, (.int .i64 ino), (.int .i64 kind), (.int .i64 m), (.int .i64 u'), (.int .i64 gi'), vd, (.string target), vx, (.bool opq)]))]) hfd (by kernel_rfl)
        obtain ⟨e5, _⟩ := hdd
        have hfd := Fr.add (t := 34) (v := vd) hfd e5
        exact G_call (args := #[vd]) (w := wd) hfd rfl (by kernel_rfl) (by kernel_rfl) (bclone_any data vd _ _ (H.le ld).sees hd (by first | omega | (simp only [maxLen] at *; omega))) fun v w' ⟨he, hl⟩ => ⟨hl, he.mono (graft_in H.sees ld hl)⟩
      · intro aq wd ld hfd hdd
        have hfd := Fr.cast (s' := [(25, (.bool (!(goodN kind m u' gi' data target xs)))), (21, (.bool false)), (11, (.int .i64 0)), (10, (ptr n2.blk 0)), (9, (.int .i64 0)), (8, (.int .i64 0)), (7, (ptr b1 0)), (0, (ptr u 0)), (1, (.int .i64 d)), (2, (.string s)), (3, (.agg #[vn, (.int .i64 ino), (.int .i64 kind), (.int .i64 m), (.int .i64 u'), (.int .i64 gi'), vd, (.string target), vx, (.bool opq)]))]) hfd (by kernel_rfl)
        exact G_val (v := (ptr b1 7)) (w' := wd) hfd rfl (by kernel_rfl) (by kernel_rfl) (Le.refl _) rfl
      · intro aq wd ld hfd hdd
        have hfd := Fr.cast (s' := [(25, (.bool (!(goodN kind m u' gi' data target xs)))), (21, (.bool false)), (11, (.int .i64 0)), (10, (ptr n2.blk 0)), (9, (.int .i64 0)), (8, (.int .i64 0)), (7, (ptr b1 0)), (0, (ptr u 0)), (1, (.int .i64 d)), (2, (.string s)), (3, (.agg #[vn, (.int .i64 ino), (.int .i64 kind), (.int .i64 m), (.int .i64 u'), (.int .i64 gi'), vd, (.string target), vx, (.bool opq)]))]) hfd (by kernel_rfl)
        obtain ⟨e7, _⟩ := hdd
        have hfd := Fr.add (t := 36) (v := (ptr b1 7)) hfd e7
        exact G_val hfd rfl (by kernel_rfl) (load_ev (run_load_one ((H.le ld).blk 0) Try.underlying9 rfl rfl) rfl rfl) (Le.refl _) rfl
      · intro aq wd ld hfd hdd
        have hfd := Fr.cast (s' := [(25, (.bool (!(goodN kind m u' gi' data target xs)))), (21, (.bool false)), (11, (.int .i64 0)), (10, (ptr n2.blk 0)), (9, (.int .i64 0)), (8, (.int .i64 0)), (7, (ptr b1 0)), (0, (ptr u 0)), (1, (.int .i64 d)), (2, (.string s)), (3, (.agg #[vn, (.int .i64 ino), (.int .i64 kind), (.int .i64 m), (.int .i64 u'), (.int .i64 gi'), vd, (.string target), vx, (.bool opq)]))]) hfd (by kernel_rfl)
        exact G_val (v := (ptr b1 8)) (w' := wd) hfd rfl (by kernel_rfl) (by kernel_rfl) (Le.refl _) rfl
      · intro aq wd ld hfd hdd
        have hfd := Fr.cast (s' := [(25, (.bool (!(goodN kind m u' gi' data target xs)))), (21, (.bool false)), (11, (.int .i64 0)), (10, (ptr n2.blk 0)), (9, (.int .i64 0)), (8, (.int .i64 0)), (7, (ptr b1 0)), (0, (ptr u 0)), (1, (.int .i64 d)), (2, (.string s)), (3, (.agg #[vn, (.int .i64 ino), (.int .i64 kind), (.int .i64 m), (.int .i64 u'), (.int .i64 gi'), vd, (.string target), vx, (.bool opq)]))]) hfd (by kernel_rfl)
        obtain ⟨e9, _⟩ := hdd
        have hfd := Fr.add (t := 38) (v := (ptr b1 8)) hfd e9
        exact G_val hfd rfl (by kernel_rfl) (load_ev (run_load_one ((H.le ld).blk 0) Try.underlying26 rfl rfl) rfl rfl) (Le.refl _) rfl
      · intro aq wd ld hfd hdd
        have hfd := Fr.cast (s' := [(25, (.bool (!(goodN kind m u' gi' data target xs)))), (21, (.bool false)), (11, (.int .i64 0)), (10, (ptr n2.blk 0)), (9, (.int .i64 0)), (8, (.int .i64 0)), (7, (ptr b1 0)), (0, (ptr u 0)), (1, (.int .i64 d)), (2, (.string s)), (3, (.agg #[vn, (.int .i64 ino), (.int .i64 kind), (.int .i64 m), (.int .i64 u'), (.int .i64 gi'), vd, (.string target), vx, (.bool opq)]))]) hfd (by kernel_rfl)
        obtain ⟨e10, _, _⟩ := hdd
        have hfd := Fr.add (t := 39) (v := vx) hfd e10
        exact G_call (args := #[vx]) (w := wd) hfd rfl (by kernel_rfl) (by kernel_rfl) (attributes_any xs vx _ _ (H.le ld).sees hx (by first | omega | (simp only [maxLen] at *; omega)) (by assumption)) fun v w' ⟨he, hl⟩ => ⟨hl, he.mono (graft_in H.sees ld hl)⟩
      intro aq1 w4 l3 hf2 fa1
      obtain ⟨_, qv1, _, qv2, _, _, qv3, _, qv4, _, _, qv5, _⟩ := fa1
      have hf2 := Fr.cast (s' := [(25, (.bool (!(goodN kind m u' gi' data target xs)))), (21, (.bool false)), (11, (.int .i64 0)), (10, (ptr n2.blk 0)), (9, (.int .i64 0)), (8, (.int .i64 0)), (7, (ptr b1 0)), (0, (ptr u 0)), (1, (.int .i64 d)), (2, (.string s)), (3, (.agg #[vn, (.int .i64 ino), (.int .i64 kind), (.int .i64 m), (.int .i64 u'), (.int .i64 gi'), vd, (.string target), vx, (.bool opq)]))]) hf2 (by kernel_rfl)
      have qv3 : Is (graft g w3 w4) (aq1.tmps.getD 35 undef) (data : List UInt8) := qv3
      obtain ⟨v1, e1⟩ : ∃ v1, aq1.tmps.getD 35 undef = v1 := ⟨_, rfl⟩
      rw [e1] at qv3
      have qv5 : Is (graft g w3 w4) (aq1.tmps.getD 40 undef) (xs : List XattrD) := qv5
      obtain ⟨v2, e2⟩ : ∃ v1, aq1.tmps.getD 40 undef = v1 := ⟨_, rfl⟩
      rw [e2] at qv5
      have hf2 := Fr.add (t := 30) (v := (.int .i64 kind)) hf2 qv1
      have hf2 := Fr.add (t := 32) (v := (.agg #[(.int .i64 m), (.int .i64 u'), (.int .i64 gi')])) hf2 qv2
      have hf2 := Fr.add (t := 35) (v := v1) hf2 e1
      have hf2 := Fr.add (t := 37) (v := (.string target)) hf2 qv4
      have hf2 := Fr.add (t := 40) (v := v2) hf2 e2
      obtain ⟨g1, hg1, m1, H⟩ := H.data l3
      rw [hg1] at qv3
      rw [hg1] at qv5
      have ln_qv3 := qv3.len_le
      have ln_qv5 := qv5.len_le
      refine (?_ : wpR _ _ _ _ [(40, v2), (37, (.string target)), (35, v1), (32, (.agg #[(.int .i64 m), (.int .i64 u'), (.int .i64 gi')])), (30, (.int .i64 kind)), (25, (.bool (!(goodN kind m u' gi' data target xs)))), (21, (.bool false)), (11, (.int .i64 0)), (10, (ptr n2.blk 0)), (9, (.int .i64 0)), (8, (.int .i64 0)), (7, (ptr b1 0)), (0, (ptr u 0)), (1, (.int .i64 d)), (2, (.string s)), (3, (.agg #[vn, (.int .i64 ino), (.int .i64 kind), (.int .i64 m), (.int .i64 u'), (.int .i64 gi'), vd, (.string target), vx, (.bool opq)]))] _ _) aq1 (hf2.sub ⟨rfl, rfl, rfl, rfl, rfl, rfl, rfl, rfl, rfl, rfl, rfl, rfl, rfl, rfl, rfl, rfl, trivial⟩)
      obtain ⟨sa1, sn1, sk1, se1⟩ := slice_form qv3
      subst se1
      obtain ⟨sa2, sn2, sk2, se2⟩ := slice_form qv5
      subst se2
      refine Rv (.agg #[(.slice none 0 0), (.int .i64 0), (.int .i64 kind), (.int .i64 m), (.int .i64 u'), (.int .i64 gi'), (.slice sa1 sn1 sk1), (.string target), (.slice sa2 sn2 sk2), (.bool false)]) w4 ?_
      refine Rv (.agg #[(.slice none 0 0), (.int .i64 0), (.int .i64 kind), (.int .i64 m), (.int .i64 u'), (.int .i64 gi'), (.slice sa1 sn1 sk1), (.string target), (.slice sa2 sn2 sk2), (.bool false), (.map none), (.int .i64 0), (.int .i64 1)]) w4 ?_
      refine S_box rfl rfl rfl rfl rfl _ rfl fun b2 w5 n3 => ?_
      replace H := H.new n3
      refine Rv (ptr b2 0) w5 ?_
      refine wpR_nil ?_
      refine E_then_normal ?_
      refine C_seq ?_
      refine C_seq ?_
      refine Cs [(12, (ptr b2 0)), (25, (.bool (!(goodN kind m u' gi' data target xs)))), (21, (.bool false)), (11, (.int .i64 0)), (10, (ptr n2.blk 0)), (9, (.int .i64 0)), (8, (.int .i64 0)), (7, (ptr b1 0)), (0, (ptr u 0)), (1, (.int .i64 d)), (2, (.string s)), (3, (.agg #[vn, (.int .i64 ino), (.int .i64 kind), (.int .i64 m), (.int .i64 u'), (.int .i64 gi'), vd, (.string target), vx, (.bool opq)]))] ?_
      refine C_region ?_
      refine Rv (ptr b1 2) w5 ?_
      refine S_load (run_load_one (H.blk 1) Try.underlying3 rfl rfl) rfl rfl rfl rfl rfl ?_
      refine Rv (.bool (kind == 1)) w5 ?_
      refine wpR_nil ?_
      refine E_then_normal ?_
      refine C_cond rfl (fun c2 => ?_) (fun c2 => ?_)
      · have d2 : kind = 1 := eq_of_beq c2
        refine Cs [(46, (.bool (kind == 1))), (12, (ptr b2 0)), (25, (.bool (!(goodN kind m u' gi' data target xs)))), (21, (.bool false)), (11, (.int .i64 0)), (10, (ptr n2.blk 0)), (9, (.int .i64 0)), (8, (.int .i64 0)), (7, (ptr b1 0)), (0, (ptr u 0)), (1, (.int .i64 d)), (2, (.string s)), (3, (.agg #[vn, (.int .i64 ino), (.int .i64 kind), (.int .i64 m), (.int .i64 u'), (.int .i64 gi'), vd, (.string target), vx, (.bool opq)]))] ?_
        refine C_region ?_
        refine Rv (ptr b2 0) w5 ?_
        refine Rv (ptr b2 0) w5 ?_
        refine S_makeMap ByteArray (k := 9) H rfl rfl rfl rfl fun b3 w6 Hn => ?_
        replace H := Hn
        clear Hn
        refine Rv (.int .i64 d) w6 ?_
        refine Rv (ptr b2 0) w6 ?_
        refine Rv (ptr b2 10) w6 ?_
        refine S_store (H.blk 1) rfl rfl rfl rfl rfl (by kernel_rfl) (one_all (l := [(.map (some b3))]) ⟨one_mapV (SL.mapR (H.pick 0)), trivial⟩) (Nat.le_of_ble_eq_true rfl) #[(.slice none 0 0), (.int .i64 0), (.int .i64 kind), (.int .i64 m), (.int .i64 u'), (.int .i64 gi'), (.slice sa1 sn1 sk1), (.string target), (.slice sa2 sn2 sk2), (.bool false), (.map (some b3)), (.int .i64 0), (.int .i64 1)] rfl fun w7 u1 => ?_
        replace H := H.upd 1 u1
        refine Rv (ptr b2 0) w7 ?_
        refine Rv (ptr b2 11) w7 ?_
        refine S_store (H.blk 1) rfl rfl rfl rfl rfl (by kernel_rfl) rfl (Nat.le_of_ble_eq_true rfl) #[(.slice none 0 0), (.int .i64 0), (.int .i64 kind), (.int .i64 m), (.int .i64 u'), (.int .i64 gi'), (.slice sa1 sn1 sk1), (.string target), (.slice sa2 sn2 sk2), (.bool false), (.map (some b3)), (.int .i64 d), (.int .i64 1)] rfl fun w8 u2 => ?_
        replace H := H.upd 1 u2
        refine wpR_nil ?_
        refine E_then_normal ?_
        refine C_seq ?_
        refine Cs [(46, (.bool (kind == 1))), (12, (ptr b2 0)), (25, (.bool (!(goodN kind m u' gi' data target xs)))), (21, (.bool false)), (11, (.int .i64 0)), (10, (ptr n2.blk 0)), (9, (.int .i64 0)), (8, (.int .i64 0)), (7, (ptr b1 0)), (0, (ptr u 0)), (1, (.int .i64 d)), (2, (.string s)), (3, (.agg #[vn, (.int .i64 ino), (.int .i64 kind), (.int .i64 m), (.int .i64 u'), (.int .i64 gi'), vd, (.string target), vx, (.bool opq)]))] ?_
        refine C_region ?_
        refine Rv (ptr u 0) w8 ?_
        refine Rv (ptr u 0) w8 ?_
        refine Rv (ptr u 3) w8 ?_
        refine S_load (run_load_one (H.upR 3 kI).ublk Try.underlying3 rfl rfl) rfl rfl rfl rfl rfl ?_
        refine Rv (.int .i64 nx) w8 ?_
        refine wpR_nil ?_
        refine E_then_normal ?_
        refine C_seq ?_
        refine Cs [(13, (.int .i64 nx)), (46, (.bool (kind == 1))), (12, (ptr b2 0)), (25, (.bool (!(goodN kind m u' gi' data target xs)))), (21, (.bool false)), (11, (.int .i64 0)), (10, (ptr n2.blk 0)), (9, (.int .i64 0)), (8, (.int .i64 0)), (7, (ptr b1 0)), (0, (ptr u 0)), (1, (.int .i64 d)), (2, (.string s)), (3, (.agg #[vn, (.int .i64 ino), (.int .i64 kind), (.int .i64 m), (.int .i64 u'), (.int .i64 gi'), vd, (.string target), vx, (.bool opq)]))] ?_
        refine C_region ?_
        refine Rv (ptr u 0) w8 ?_
        refine Rv (ptr u 0) w8 ?_
        refine Rv (ptr u 3) w8 ?_
        refine S_load (run_load_one (H.upR 3 kI).ublk Try.underlying3 rfl rfl) rfl rfl rfl rfl rfl ?_
        refine Rw (.int .i64 (nx + 1)) w8 (eq_int (by kernel_rfl) (wrap64_in (by first | omega | (simp only [maxLen] at *; omega)) (by first | omega | (simp only [maxLen] at *; omega)))) ?_
        refine Rv (ptr u 0) w8 ?_
        refine Rv (ptr u 3) w8 ?_
        replace H := H.pick 3
        refine S_store ((H.upR 0 kI).ublk) rfl rfl rfl rfl rfl (by kernel_rfl) rfl (Nat.le_of_ble_eq_true rfl) #[(.int .i64 q1), (.int .i64 q2), (.map (some mb)), (.int .i64 (nx + 1))] rfl fun w9 u3 => ?_
        replace H := H.upNext u3
        refine wpR_nil ?_
        refine E_then_normal ?_
        refine C_seq ?_
        refine Cs [(13, (.int .i64 nx)), (46, (.bool (kind == 1))), (12, (ptr b2 0)), (25, (.bool (!(goodN kind m u' gi' data target xs)))), (21, (.bool false)), (11, (.int .i64 0)), (10, (ptr n2.blk 0)), (9, (.int .i64 0)), (8, (.int .i64 0)), (7, (ptr b1 0)), (0, (ptr u 0)), (1, (.int .i64 d)), (2, (.string s)), (3, (.agg #[vn, (.int .i64 ino), (.int .i64 kind), (.int .i64 m), (.int .i64 u'), (.int .i64 gi'), vd, (.string target), vx, (.bool opq)]))] ?_
        refine C_drawF true [some (ptr u 0), some (ptr u 0), some (ptr u 2), some (.map (some mb)), some (.int .i64 nx), some (ptr n2.blk 0), some (ptr n2.blk 0), some (ptr n2.blk 10), some n2.vi, some (.string s), some (ptr b2 0), some (.int .i64 nx), none, none, none, none, none, none] (fun w => Blk w u #[(.int .i64 q1), (.int .i64 q2), (.map (some mb)), (.int .i64 (nx + 1))] 85 ∧ Blk w n2.blk #[(.slice none 0 0), (.int .i64 0), (.int .i64 n2.kind), (.int .i64 n2.mode), (.int .i64 n2.uid), (.int .i64 n2.gid), n2.vd, (.string n2.target), n2.vx, (.bool n2.opq), n2.vi, (.int .i64 n2.up), (.int .i64 n2.links)] 82 ∧ Mono g1 w ∧ True) (by kernel_rfl) (by kernel_rfl) (by kernel_rfl) (by kernel_rfl) (by kernel_rfl) ⟨((H.le (Le.drew _)).upR 0 kI).ublk, (((H.le (Le.drew _)).upR 0 kI).nodes _ _ hr1).blk, (H.le (Le.drew _)).m, trivial⟩ ⟨?_, ?_, ?_, ?_, ?_, ?_, ?_, ?_, ?_, ?_, ?_, ?_, FS_no rfl, FS_no rfl, FS_no rfl, FS_no rfl, FS_no rfl, FS_no rfl, trivial⟩ [12, 13, 14, 15, 16, 17] (by kernel_rfl) [(77, (.int .i64 nx)), (76, (ptr b2 0)), (75, (.string s)), (74, n2.vi), (70, (.int .i64 nx)), (69, (.map (some mb))), (13, (.int .i64 nx)), (46, (.bool (kind == 1))), (12, (ptr b2 0)), (25, (.bool (!(goodN kind m u' gi' data target xs)))), (21, (.bool false)), (11, (.int .i64 0)), (10, (ptr n2.blk 0)), (9, (.int .i64 0)), (8, (.int .i64 0)), (7, (ptr b1 0)), (0, (ptr u 0)), (1, (.int .i64 d)), (2, (.string s)), (3, (.agg #[vn, (.int .i64 ino), (.int .i64 kind), (.int .i64 m), (.int .i64 u'), (.int .i64 gi'), vd, (.string target), vx, (.bool opq)]))] ⟨rfl, rfl, rfl, rfl, rfl, rfl, rfl, rfl, rfl, rfl, rfl, rfl, rfl, rfl, rfl, rfl, rfl, rfl, rfl, rfl, trivial⟩ ?_
        · refine FS_yes _ rfl fun aq wd hph hfd hdd => ?_
          obtain ⟨hb0, hb1, hmo, _⟩ := hph
          have hfd := Fr.cast (s' := [(13, (.int .i64 nx)), (46, (.bool (kind == 1))), (12, (ptr b2 0)), (25, (.bool (!(goodN kind m u' gi' data target xs)))), (21, (.bool false)), (11, (.int .i64 0)), (10, (ptr n2.blk 0)), (9, (.int .i64 0)), (8, (.int .i64 0)), (7, (ptr b1 0)), (0, (ptr u 0)), (1, (.int .i64 d)), (2, (.string s)), (3, (.agg #[vn, (.int .i64 ino), (.int .i64 kind), (.int .i64 m), (.int .i64 u'), (.int .i64 gi'), vd, (.string target), vx, (.bool opq)]))]) hfd (by kernel_rfl)
          exact FL_val hfd rfl (by kernel_rfl) (by kernel_rfl)
        · refine FS_yes _ rfl fun aq wd hph hfd hdd => ?_
          obtain ⟨hb0, hb1, hmo, _⟩ := hph
          have hfd := Fr.cast (s' := [(13, (.int .i64 nx)), (46, (.bool (kind == 1))), (12, (ptr b2 0)), (25, (.bool (!(goodN kind m u' gi' data target xs)))), (21, (.bool false)), (11, (.int .i64 0)), (10, (ptr n2.blk 0)), (9, (.int .i64 0)), (8, (.int .i64 0)), (7, (ptr b1 0)), (0, (ptr u 0)), (1, (.int .i64 d)), (2, (.string s)), (3, (.agg #[vn, (.int .i64 ino), (.int .i64 kind), (.int .i64 m), (.int .i64 u'), (.int .i64 gi'), vd, (.string target), vx, (.bool opq)]))]) hfd (by kernel_rfl)
          obtain ⟨e0, _⟩ := hdd
          have hfd := Fr.add (t := 66) (v := (ptr u 0)) hfd e0
          exact FL_val hfd rfl (by kernel_rfl) (by kernel_rfl)
        · refine FS_yes _ rfl fun aq wd hph hfd hdd => ?_
          obtain ⟨hb0, hb1, hmo, _⟩ := hph
          have hfd := Fr.cast (s' := [(13, (.int .i64 nx)), (46, (.bool (kind == 1))), (12, (ptr b2 0)), (25, (.bool (!(goodN kind m u' gi' data target xs)))), (21, (.bool false)), (11, (.int .i64 0)), (10, (ptr n2.blk 0)), (9, (.int .i64 0)), (8, (.int .i64 0)), (7, (ptr b1 0)), (0, (ptr u 0)), (1, (.int .i64 d)), (2, (.string s)), (3, (.agg #[vn, (.int .i64 ino), (.int .i64 kind), (.int .i64 m), (.int .i64 u'), (.int .i64 gi'), vd, (.string target), vx, (.bool opq)]))]) hfd (by kernel_rfl)
          obtain ⟨e1, _⟩ := hdd
          have hfd := Fr.add (t := 67) (v := (ptr u 0)) hfd e1
          exact FL_val hfd rfl (by kernel_rfl) (by kernel_rfl)
        · refine FS_yes _ rfl fun aq wd hph hfd hdd => ?_
          obtain ⟨hb0, hb1, hmo, _⟩ := hph
          have hfd := Fr.cast (s' := [(13, (.int .i64 nx)), (46, (.bool (kind == 1))), (12, (ptr b2 0)), (25, (.bool (!(goodN kind m u' gi' data target xs)))), (21, (.bool false)), (11, (.int .i64 0)), (10, (ptr n2.blk 0)), (9, (.int .i64 0)), (8, (.int .i64 0)), (7, (ptr b1 0)), (0, (ptr u 0)), (1, (.int .i64 d)), (2, (.string s)), (3, (.agg #[vn, (.int .i64 ino), (.int .i64 kind), (.int .i64 m), (.int .i64 u'), (.int .i64 gi'), vd, (.string target), vx, (.bool opq)]))]) hfd (by kernel_rfl)
          obtain ⟨e2, _⟩ := hdd
          have hfd := Fr.add (t := 68) (v := (ptr u 2)) hfd e2
          exact FL_val hfd rfl (by kernel_rfl) (load_ev (run_load_one hb0 Try.underlying83 rfl rfl) rfl rfl)
        · refine FS_yes _ rfl fun aq wd hph hfd hdd => ?_
          obtain ⟨hb0, hb1, hmo, _⟩ := hph
          have hfd := Fr.cast (s' := [(13, (.int .i64 nx)), (46, (.bool (kind == 1))), (12, (ptr b2 0)), (25, (.bool (!(goodN kind m u' gi' data target xs)))), (21, (.bool false)), (11, (.int .i64 0)), (10, (ptr n2.blk 0)), (9, (.int .i64 0)), (8, (.int .i64 0)), (7, (ptr b1 0)), (0, (ptr u 0)), (1, (.int .i64 d)), (2, (.string s)), (3, (.agg #[vn, (.int .i64 ino), (.int .i64 kind), (.int .i64 m), (.int .i64 u'), (.int .i64 gi'), vd, (.string target), vx, (.bool opq)]))]) hfd (by kernel_rfl)
          exact FL_val hfd rfl (by kernel_rfl) (by kernel_rfl)
        · refine FS_yes _ rfl fun aq wd hph hfd hdd => ?_
          obtain ⟨hb0, hb1, hmo, _⟩ := hph
          have hfd := Fr.cast (s' := [(13, (.int .i64 nx)), (46, (.bool (kind == 1))), (12, (ptr b2 0)), (25, (.bool (!(goodN kind m u' gi' data target xs)))), (21, (.bool false)), (11, (.int .i64 0)), (10, (ptr n2.blk 0)), (9, (.int .i64 0)), (8, (.int .i64 0)), (7, (ptr b1 0)), (0, (ptr u 0)), (1, (.int .i64 d)), (2, (.string s)), (3, (.agg #[vn, (.int .i64 ino), (.int .i64 kind), (.int .i64 m), (.int .i64 u'), (.int .i64 gi'), vd, (.string target), vx, (.bool opq)]))]) hfd (by kernel_rfl)
          exact FL_val hfd rfl (by kernel_rfl) (by kernel_rfl)
        · refine FS_yes _ rfl fun aq wd hph hfd hdd => ?_
          obtain ⟨hb0, hb1, hmo, _⟩ := hph
          have hfd := Fr.cast (s' := [(13, (.int .i64 nx)), (46, (.bool (kind == 1))), (12, (ptr b2 0)), (25, (.bool (!(goodN kind m u' gi' data target xs)))), (21, (.bool false)), (11, (.int .i64 0)), (10, (ptr n2.blk 0)), (9, (.int .i64 0)), (8, (.int .i64 0)), (7, (ptr b1 0)), (0, (ptr u 0)), (1, (.int .i64 d)), (2, (.string s)), (3, (.agg #[vn, (.int .i64 ino), (.int .i64 kind), (.int .i64 m), (.int .i64 u'), (.int .i64 gi'), vd, (.string target), vx, (.bool opq)]))]) hfd (by kernel_rfl)
          obtain ⟨e5, _⟩ := hdd
          have hfd := Fr.add (t := 71) (v := (ptr n2.blk 0)) hfd e5
          exact FL_val hfd rfl (by kernel_rfl) (by kernel_rfl)
        · refine FS_yes _ rfl fun aq wd hph hfd hdd => ?_
          obtain ⟨hb0, hb1, hmo, _⟩ := hph
          have hfd := Fr.cast (s' := [(13, (.int .i64 nx)), (46, (.bool (kind == 1))), (12, (ptr b2 0)), (25, (.bool (!(goodN kind m u' gi' data target xs)))), (21, (.bool false)), (11, (.int .i64 0)), (10, (ptr n2.blk 0)), (9, (.int .i64 0)), (8, (.int .i64 0)), (7, (ptr b1 0)), (0, (ptr u 0)), (1, (.int .i64 d)), (2, (.string s)), (3, (.agg #[vn, (.int .i64 ino), (.int .i64 kind), (.int .i64 m), (.int .i64 u'), (.int .i64 gi'), vd, (.string target), vx, (.bool opq)]))]) hfd (by kernel_rfl)
          obtain ⟨e6, _⟩ := hdd
          have hfd := Fr.add (t := 72) (v := (ptr n2.blk 0)) hfd e6
          exact FL_val hfd rfl (by kernel_rfl) (by kernel_rfl)
        · refine FS_yes _ rfl fun aq wd hph hfd hdd => ?_
          obtain ⟨hb0, hb1, hmo, _⟩ := hph
          have hfd := Fr.cast (s' := [(13, (.int .i64 nx)), (46, (.bool (kind == 1))), (12, (ptr b2 0)), (25, (.bool (!(goodN kind m u' gi' data target xs)))), (21, (.bool false)), (11, (.int .i64 0)), (10, (ptr n2.blk 0)), (9, (.int .i64 0)), (8, (.int .i64 0)), (7, (ptr b1 0)), (0, (ptr u 0)), (1, (.int .i64 d)), (2, (.string s)), (3, (.agg #[vn, (.int .i64 ino), (.int .i64 kind), (.int .i64 m), (.int .i64 u'), (.int .i64 gi'), vd, (.string target), vx, (.bool opq)]))]) hfd (by kernel_rfl)
          obtain ⟨e7, _⟩ := hdd
          have hfd := Fr.add (t := 73) (v := (ptr n2.blk 10)) hfd e7
          exact FL_val hfd rfl (by kernel_rfl) (load_ev (run_load_one hb1 Try.underlying80 rfl rfl) rfl rfl)
        · refine FS_yes _ rfl fun aq wd hph hfd hdd => ?_
          obtain ⟨hb0, hb1, hmo, _⟩ := hph
          have hfd := Fr.cast (s' := [(13, (.int .i64 nx)), (46, (.bool (kind == 1))), (12, (ptr b2 0)), (25, (.bool (!(goodN kind m u' gi' data target xs)))), (21, (.bool false)), (11, (.int .i64 0)), (10, (ptr n2.blk 0)), (9, (.int .i64 0)), (8, (.int .i64 0)), (7, (ptr b1 0)), (0, (ptr u 0)), (1, (.int .i64 d)), (2, (.string s)), (3, (.agg #[vn, (.int .i64 ino), (.int .i64 kind), (.int .i64 m), (.int .i64 u'), (.int .i64 gi'), vd, (.string target), vx, (.bool opq)]))]) hfd (by kernel_rfl)
          exact FL_val hfd rfl (by kernel_rfl) (by kernel_rfl)
        · refine FS_yes _ rfl fun aq wd hph hfd hdd => ?_
          obtain ⟨hb0, hb1, hmo, _⟩ := hph
          have hfd := Fr.cast (s' := [(13, (.int .i64 nx)), (46, (.bool (kind == 1))), (12, (ptr b2 0)), (25, (.bool (!(goodN kind m u' gi' data target xs)))), (21, (.bool false)), (11, (.int .i64 0)), (10, (ptr n2.blk 0)), (9, (.int .i64 0)), (8, (.int .i64 0)), (7, (ptr b1 0)), (0, (ptr u 0)), (1, (.int .i64 d)), (2, (.string s)), (3, (.agg #[vn, (.int .i64 ino), (.int .i64 kind), (.int .i64 m), (.int .i64 u'), (.int .i64 gi'), vd, (.string target), vx, (.bool opq)]))]) hfd (by kernel_rfl)
          exact FL_val hfd rfl (by kernel_rfl) (by kernel_rfl)
        · refine FS_yes _ rfl fun aq wd hph hfd hdd => ?_
          obtain ⟨hb0, hb1, hmo, _⟩ := hph
          have hfd := Fr.cast (s' := [(13, (.int .i64 nx)), (46, (.bool (kind == 1))), (12, (ptr b2 0)), (25, (.bool (!(goodN kind m u' gi' data target xs)))), (21, (.bool false)), (11, (.int .i64 0)), (10, (ptr n2.blk 0)), (9, (.int .i64 0)), (8, (.int .i64 0)), (7, (ptr b1 0)), (0, (ptr u 0)), (1, (.int .i64 d)), (2, (.string s)), (3, (.agg #[vn, (.int .i64 ino), (.int .i64 kind), (.int .i64 m), (.int .i64 u'), (.int .i64 gi'), vd, (.string target), vx, (.bool opq)]))]) hfd (by kernel_rfl)
          exact FL_val hfd rfl (by kernel_rfl) (by kernel_rfl)
        intro w10 l4 _
        replace H := H.le l4
        refine F_step ⟨(H.upR 0 kI).ublk, ((H.upR 0 kI).nodes _ _ hr1).blk, H.m, trivial⟩ ?_
        have kb1 := (H.upR 0 kI).ublk
        have kb2 := ((H.upR 0 kI).nodes _ _ hr1).blk
        obtain ⟨val1, st1, w11, hu1, Hn, hk1⟩ := SL.upEntry (P := Try.prog) H kI Try.underlying83 (z := .pointer none) (by kernel_rfl) (by assumption) nx wf_nx
        refine Rw (.tuple #[val1, goInt st1]) w11 (X_mapEntry rfl rfl rfl hu1) ?_
        replace H := Hn
        clear Hn
        have kb3 := hk1 _ _ _ kb1
        have kb4 := hk1 _ _ _ kb2
        refine wpR_nil ?_
        refine F_next ?_
        refine F_step ⟨kb3, kb4, H.m, trivial⟩ ?_
        refine Rv (goInt st1) w11 ?_
        refine wpR_nil ?_
        refine F_next ?_
        refine F_step ⟨kb3, kb4, H.m, trivial⟩ ?_
        replace H := H.pick 1
        replace H := H.mapVI
        replace H := H.pick 2
        replace H := H.pick 2
        obtain ⟨w12, hu2, Hn, hk2⟩ := SL.upAdd (P := Try.prog) (n := { blk := b2, kind := kind, mode := m, uid := u', gid := gi', vd := (.slice sa1 sn1 sk1), data := data, target := target, vx := (.slice sa2 sn2 sk2), xattrs := xs, opq := false, vi := (.map (some b3)), ents := [], up := d, links := 1 }) (t := 83) H kI wf_nx hno qv3 qv5 (sz_ok (by omega)) (fun _ => ⟨_, rfl⟩)
        refine R_none (v := undef) rfl (by kernel_rfl) rfl (.inr (X_entryStore rfl rfl rfl rfl hu2)) ?_
        replace H := Hn
        clear Hn
        have kb5 := hk2 _ _ _ kb3
        have kb6 := hk2 _ _ _ kb4
        have hr2 : getK ((nx, { blk := b2, kind := kind, mode := m, uid := u', gid := gi', vd := (.slice sa1 sn1 sk1), data := data, target := target, vx := (.slice sa2 sn2 sk2), xattrs := xs, opq := false, vi := (.map (some b3)), ents := [], up := d, links := 1 }) :: L) d = some n2 := by rw [getK_cons_ne (ref_ne hno hr1)]; exact hr1
        refine wpR_nil ?_
        refine F_next ?_
        refine F_step ⟨kb5, kb6, H.m, trivial⟩ ?_
        obtain ⟨ib1, val2, st2, w13, R1, hv1, hu3, Hn, hk3, back1⟩ := SL.entEntry (P := Try.prog) H kI kS hr2 fk1 Try.underlying80 (z := .int .i64 0) (by kernel_rfl) s (sz_ok (by first | omega | (simp only [maxLen] at *; omega))) (by assumption)
        refine Rw (.tuple #[val2, goInt st2]) w13 (X_mapEntry rfl rfl rfl hu3) ?_
        replace H := Hn
        clear Hn
        have kb7 := hk3 _ _ _ kb5
        have kb8 := hk3 _ _ _ kb6
        refine wpR_nil ?_
        refine F_next ?_
        refine F_step ⟨kb7, kb8, H.m, trivial⟩ ?_
        refine Rv (goInt st2) w13 ?_
        refine wpR_nil ?_
        refine F_next ?_
        refine F_step ⟨kb7, kb8, H.m, trivial⟩ ?_
        obtain ⟨w14, hu4, Hn, hk4⟩ := SL.entryStore H kS (sz_ok (by first | omega | (simp only [maxLen] at *; omega))) 80 (.int .i64 nx)
        rw [← hv1] at hu4
        refine R_none (v := undef) rfl (by kernel_rfl) rfl (.inr (X_entryStore rfl rfl rfl rfl hu4)) ?_
        replace H := back1 _ _ Hn
        clear Hn
        have kb9 := hk4 _ _ _ kb7
        have kb10 := hk4 _ _ _ kb8
        have hr3 : getK (setK ((nx, { blk := b2, kind := kind, mode := m, uid := u', gid := gi', vd := (.slice sa1 sn1 sk1), data := data, target := target, vx := (.slice sa2 sn2 sk2), xattrs := xs, opq := false, vi := (.map (some b3)), ents := [], up := d, links := 1 }) :: L) d { n2 with ents := putK n2.ents s nx }) d = some { n2 with ents := putK n2.ents s nx } := getK_setK hr2
        refine wpR_nil ?_
        refine F_next ?_
        refine F_nil (.inl rfl) ?_
        refine E_then_normal ?_
        refine C_seq ?_
        refine Cs [(13, (.int .i64 nx)), (46, (.bool (kind == 1))), (12, (ptr b2 0)), (25, (.bool (!(goodN kind m u' gi' data target xs)))), (21, (.bool false)), (11, (.int .i64 0)), (10, (ptr n2.blk 0)), (9, (.int .i64 0)), (8, (.int .i64 0)), (7, (ptr b1 0)), (0, (ptr u 0)), (1, (.int .i64 d)), (2, (.string s)), (3, (.agg #[vn, (.int .i64 ino), (.int .i64 kind), (.int .i64 m), (.int .i64 u'), (.int .i64 gi'), vd, (.string target), vx, (.bool opq)]))] ?_
        refine C_region ?_
        refine Rv (.int .i64 nx) w14 ?_
        refine Rv (.int .i64 nx) w14 ?_
        refine Rv (.int .i64 0) w14 ?_
        refine wpR_nil ?_
        refine E_then_normal ?_
        refine C_ret ?_
        refine E_ret (res_two rfl rfl rfl) ⟨_, rfl, ?_⟩
        have er1 := getK_er_some hr1
        have ef := freshE_er L d s
        refine ⟨_, _, _, m1, (H.keep1 1), ?_, ?_, ?_⟩
        · (simp only [makeU, makeE, goodM, newU, er_setK, er_cons]; first | (simp_all; done) | (simp_all; omega))
        · (simp only [makeU, makeE, goodM, newU, er_setK, er_cons]; first | (simp_all; done) | (simp_all; omega))
        · refine tup_ii ?_ ?_ <;> (simp only [makeU, makeE, goodM, newU, er_setK, er_cons]; first | (simp_all; done) | (simp_all; omega))
      · have d2 : kind ≠ 1 := ne_of_beq_false c2
        refine C_skip ?_
        refine E_then_normal ?_
        refine C_seq ?_
        refine Cs [(46, (.bool (kind == 1))), (12, (ptr b2 0)), (25, (.bool (!(goodN kind m u' gi' data target xs)))), (21, (.bool false)), (11, (.int .i64 0)), (10, (ptr n2.blk 0)), (9, (.int .i64 0)), (8, (.int .i64 0)), (7, (ptr b1 0)), (0, (ptr u 0)), (1, (.int .i64 d)), (2, (.string s)), (3, (.agg #[vn, (.int .i64 ino), (.int .i64 kind), (.int .i64 m), (.int .i64 u'), (.int .i64 gi'), vd, (.string target), vx, (.bool opq)]))] ?_
        refine C_region ?_
        refine Rv (ptr u 0) w5 ?_
        refine Rv (ptr u 0) w5 ?_
        refine Rv (ptr u 3) w5 ?_
        refine S_load (run_load_one (H.upR 2 kI).ublk Try.underlying3 rfl rfl) rfl rfl rfl rfl rfl ?_
        refine Rv (.int .i64 nx) w5 ?_
        refine wpR_nil ?_
        refine E_then_normal ?_
        refine C_seq ?_
        refine Cs [(13, (.int .i64 nx)), (46, (.bool (kind == 1))), (12, (ptr b2 0)), (25, (.bool (!(goodN kind m u' gi' data target xs)))), (21, (.bool false)), (11, (.int .i64 0)), (10, (ptr n2.blk 0)), (9, (.int .i64 0)), (8, (.int .i64 0)), (7, (ptr b1 0)), (0, (ptr u 0)), (1, (.int .i64 d)), (2, (.string s)), (3, (.agg #[vn, (.int .i64 ino), (.int .i64 kind), (.int .i64 m), (.int .i64 u'), (.int .i64 gi'), vd, (.string target), vx, (.bool opq)]))] ?_
        refine C_region ?_
        refine Rv (ptr u 0) w5 ?_
        refine Rv (ptr u 0) w5 ?_
        refine Rv (ptr u 3) w5 ?_
        refine S_load (run_load_one (H.upR 2 kI).ublk Try.underlying3 rfl rfl) rfl rfl rfl rfl rfl ?_
        refine Rw (.int .i64 (nx + 1)) w5 (eq_int (by kernel_rfl) (wrap64_in (by first | omega | (simp only [maxLen] at *; omega)) (by first | omega | (simp only [maxLen] at *; omega)))) ?_
        refine Rv (ptr u 0) w5 ?_
        refine Rv (ptr u 3) w5 ?_
        replace H := H.pick 2
        refine S_store ((H.upR 0 kI).ublk) rfl rfl rfl rfl rfl (by kernel_rfl) rfl (Nat.le_of_ble_eq_true rfl) #[(.int .i64 q1), (.int .i64 q2), (.map (some mb)), (.int .i64 (nx + 1))] rfl fun w15 u4 => ?_
        replace H := H.upNext u4
        refine wpR_nil ?_
        refine E_then_normal ?_
        refine C_seq ?_
        refine Cs [(13, (.int .i64 nx)), (46, (.bool (kind == 1))), (12, (ptr b2 0)), (25, (.bool (!(goodN kind m u' gi' data target xs)))), (21, (.bool false)), (11, (.int .i64 0)), (10, (ptr n2.blk 0)), (9, (.int .i64 0)), (8, (.int .i64 0)), (7, (ptr b1 0)), (0, (ptr u 0)), (1, (.int .i64 d)), (2, (.string s)), (3, (.agg #[vn, (.int .i64 ino), (.int .i64 kind), (.int .i64 m), (.int .i64 u'), (.int .i64 gi'), vd, (.string target), vx, (.bool opq)]))] ?_
        refine C_drawF true [some (ptr u 0), some (ptr u 0), some (ptr u 2), some (.map (some mb)), some (.int .i64 nx), some (ptr n2.blk 0), some (ptr n2.blk 0), some (ptr n2.blk 10), some n2.vi, some (.string s), some (ptr b2 0), some (.int .i64 nx), none, none, none, none, none, none] (fun w => Blk w u #[(.int .i64 q1), (.int .i64 q2), (.map (some mb)), (.int .i64 (nx + 1))] 85 ∧ Blk w n2.blk #[(.slice none 0 0), (.int .i64 0), (.int .i64 n2.kind), (.int .i64 n2.mode), (.int .i64 n2.uid), (.int .i64 n2.gid), n2.vd, (.string n2.target), n2.vx, (.bool n2.opq), n2.vi, (.int .i64 n2.up), (.int .i64 n2.links)] 82 ∧ Mono g1 w ∧ True) (by kernel_rfl) (by kernel_rfl) (by kernel_rfl) (by kernel_rfl) (by kernel_rfl) ⟨((H.le (Le.drew _)).upR 0 kI).ublk, (((H.le (Le.drew _)).upR 0 kI).nodes _ _ hr1).blk, (H.le (Le.drew _)).m, trivial⟩ ⟨?_, ?_, ?_, ?_, ?_, ?_, ?_, ?_, ?_, ?_, ?_, ?_, FS_no rfl, FS_no rfl, FS_no rfl, FS_no rfl, FS_no rfl, FS_no rfl, trivial⟩ [12, 13, 14, 15, 16, 17] (by kernel_rfl) [(77, (.int .i64 nx)), (76, (ptr b2 0)), (75, (.string s)), (74, n2.vi), (70, (.int .i64 nx)), (69, (.map (some mb))), (13, (.int .i64 nx)), (46, (.bool (kind == 1))), (12, (ptr b2 0)), (25, (.bool (!(goodN kind m u' gi' data target xs)))), (21, (.bool false)), (11, (.int .i64 0)), (10, (ptr n2.blk 0)), (9, (.int .i64 0)), (8, (.int .i64 0)), (7, (ptr b1 0)), (0, (ptr u 0)), (1, (.int .i64 d)), (2, (.string s)), (3, (.agg #[vn, (.int .i64 ino), (.int .i64 kind), (.int .i64 m), (.int .i64 u'), (.int .i64 gi'), vd, (.string target), vx, (.bool opq)]))] ⟨rfl, rfl, rfl, rfl, rfl, rfl, rfl, rfl, rfl, rfl, rfl, rfl, rfl, rfl, rfl, rfl, rfl, rfl, rfl, rfl, trivial⟩ ?_
        · refine FS_yes _ rfl fun aq wd hph hfd hdd => ?_
          obtain ⟨hb0, hb1, hmo, _⟩ := hph
          have hfd := Fr.cast (s' := [(13, (.int .i64 nx)), (46, (.bool (kind == 1))), (12, (ptr b2 0)), (25, (.bool (!(goodN kind m u' gi' data target xs)))), (21, (.bool false)), (11, (.int .i64 0)), (10, (ptr n2.blk 0)), (9, (.int .i64 0)), (8, (.int .i64 0)), (7, (ptr b1 0)), (0, (ptr u 0)), (1, (.int .i64 d)), (2, (.string s)), (3, (.agg #[vn, (.int .i64 ino), (.int .i64 kind), (.int .i64 m), (.int .i64 u'), (.int .i64 gi'), vd, (.string target), vx, (.bool opq)]))]) hfd (by kernel_rfl)
          exact FL_val hfd rfl (by kernel_rfl) (by kernel_rfl)
        · refine FS_yes _ rfl fun aq wd hph hfd hdd => ?_
          obtain ⟨hb0, hb1, hmo, _⟩ := hph
          have hfd := Fr.cast (s' := [(13, (.int .i64 nx)), (46, (.bool (kind == 1))), (12, (ptr b2 0)), (25, (.bool (!(goodN kind m u' gi' data target xs)))), (21, (.bool false)), (11, (.int .i64 0)), (10, (ptr n2.blk 0)), (9, (.int .i64 0)), (8, (.int .i64 0)), (7, (ptr b1 0)), (0, (ptr u 0)), (1, (.int .i64 d)), (2, (.string s)), (3, (.agg #[vn, (.int .i64 ino), (.int .i64 kind), (.int .i64 m), (.int .i64 u'), (.int .i64 gi'), vd, (.string target), vx, (.bool opq)]))]) hfd (by kernel_rfl)
          obtain ⟨e0, _⟩ := hdd
          have hfd := Fr.add (t := 66) (v := (ptr u 0)) hfd e0
          exact FL_val hfd rfl (by kernel_rfl) (by kernel_rfl)
        · refine FS_yes _ rfl fun aq wd hph hfd hdd => ?_
          obtain ⟨hb0, hb1, hmo, _⟩ := hph
          have hfd := Fr.cast (s' := [(13, (.int .i64 nx)), (46, (.bool (kind == 1))), (12, (ptr b2 0)), (25, (.bool (!(goodN kind m u' gi' data target xs)))), (21, (.bool false)), (11, (.int .i64 0)), (10, (ptr n2.blk 0)), (9, (.int .i64 0)), (8, (.int .i64 0)), (7, (ptr b1 0)), (0, (ptr u 0)), (1, (.int .i64 d)), (2, (.string s)), (3, (.agg #[vn, (.int .i64 ino), (.int .i64 kind), (.int .i64 m), (.int .i64 u'), (.int .i64 gi'), vd, (.string target), vx, (.bool opq)]))]) hfd (by kernel_rfl)
          obtain ⟨e1, _⟩ := hdd
          have hfd := Fr.add (t := 67) (v := (ptr u 0)) hfd e1
          exact FL_val hfd rfl (by kernel_rfl) (by kernel_rfl)
        · refine FS_yes _ rfl fun aq wd hph hfd hdd => ?_
          obtain ⟨hb0, hb1, hmo, _⟩ := hph
          have hfd := Fr.cast (s' := [(13, (.int .i64 nx)), (46, (.bool (kind == 1))), (12, (ptr b2 0)), (25, (.bool (!(goodN kind m u' gi' data target xs)))), (21, (.bool false)), (11, (.int .i64 0)), (10, (ptr n2.blk 0)), (9, (.int .i64 0)), (8, (.int .i64 0)), (7, (ptr b1 0)), (0, (ptr u 0)), (1, (.int .i64 d)), (2, (.string s)), (3, (.agg #[vn, (.int .i64 ino), (.int .i64 kind), (.int .i64 m), (.int .i64 u'), (.int .i64 gi'), vd, (.string target), vx, (.bool opq)]))]) hfd (by kernel_rfl)
          obtain ⟨e2, _⟩ := hdd
          have hfd := Fr.add (t := 68) (v := (ptr u 2)) hfd e2
          exact FL_val hfd rfl (by kernel_rfl) (load_ev (run_load_one hb0 Try.underlying83 rfl rfl) rfl rfl)
        · refine FS_yes _ rfl fun aq wd hph hfd hdd => ?_
          obtain ⟨hb0, hb1, hmo, _⟩ := hph
          have hfd := Fr.cast (s' := [(13, (.int .i64 nx)), (46, (.bool (kind == 1))), (12, (ptr b2 0)), (25, (.bool (!(goodN kind m u' gi' data target xs)))), (21, (.bool false)), (11, (.int .i64 0)), (10, (ptr n2.blk 0)), (9, (.int .i64 0)), (8, (.int .i64 0)), (7, (ptr b1 0)), (0, (ptr u 0)), (1, (.int .i64 d)), (2, (.string s)), (3, (.agg #[vn, (.int .i64 ino), (.int .i64 kind), (.int .i64 m), (.int .i64 u'), (.int .i64 gi'), vd, (.string target), vx, (.bool opq)]))]) hfd (by kernel_rfl)
          exact FL_val hfd rfl (by kernel_rfl) (by kernel_rfl)
        · refine FS_yes _ rfl fun aq wd hph hfd hdd => ?_
          obtain ⟨hb0, hb1, hmo, _⟩ := hph
          have hfd := Fr.cast (s' := [(13, (.int .i64 nx)), (46, (.bool (kind == 1))), (12, (ptr b2 0)), (25, (.bool (!(goodN kind m u' gi' data target xs)))), (21, (.bool false)), (11, (.int .i64 0)), (10, (ptr n2.blk 0)), (9, (.int .i64 0)), (8, (.int .i64 0)), (7, (ptr b1 0)), (0, (ptr u 0)), (1, (.int .i64 d)), (2, (.string s)), (3, (.agg #[vn, (.int .i64 ino), (.int .i64 kind), (.int .i64 m), (.int .i64 u'), (.int .i64 gi'), vd, (.string target), vx, (.bool opq)]))]) hfd (by kernel_rfl)
          exact FL_val hfd rfl (by kernel_rfl) (by kernel_rfl)
        · refine FS_yes _ rfl fun aq wd hph hfd hdd => ?_
          obtain ⟨hb0, hb1, hmo, _⟩ := hph
          have hfd := Fr.cast (s' := [(13, (.int .i64 nx)), (46, (.bool (kind == 1))), (12, (ptr b2 0)), (25, (.bool (!(goodN kind m u' gi' data target xs)))), (21, (.bool false)), (11, (.int .i64 0)), (10, (ptr n2.blk 0)), (9, (.int .i64 0)), (8, (.int .i64 0)), (7, (ptr b1 0)), (0, (ptr u 0)), (1, (.int .i64 d)), (2, (.string s)), (3, (.agg #[vn, (.int .i64 ino), (.int .i64 kind), (.int .i64 m), (.int .i64 u'), (.int .i64 gi'), vd, (.string target), vx, (.bool opq)]))]) hfd (by kernel_rfl)
          obtain ⟨e5, _⟩ := hdd
          have hfd := Fr.add (t := 71) (v := (ptr n2.blk 0)) hfd e5
          exact FL_val hfd rfl (by kernel_rfl) (by kernel_rfl)
        · refine FS_yes _ rfl fun aq wd hph hfd hdd => ?_
          obtain ⟨hb0, hb1, hmo, _⟩ := hph
          have hfd := Fr.cast (s' := [(13, (.int .i64 nx)), (46, (.bool (kind == 1))), (12, (ptr b2 0)), (25, (.bool (!(goodN kind m u' gi' data target xs)))), (21, (.bool false)), (11, (.int .i64 0)), (10, (ptr n2.blk 0)), (9, (.int .i64 0)), (8, (.int .i64 0)), (7, (ptr b1 0)), (0, (ptr u 0)), (1, (.int .i64 d)), (2, (.string s)), (3, (.agg #[vn, (.int .i64 ino), (.int .i64 kind), (.int .i64 m), (.int .i64 u'), (.int .i64 gi'), vd, (.string target), vx, (.bool opq)]))]) hfd (by kernel_rfl)
          obtain ⟨e6, _⟩ := hdd
          have hfd := Fr.add (t := 72) (v := (ptr n2.blk 0)) hfd e6
          exact FL_val hfd rfl (by kernel_rfl) (by kernel_rfl)
        · refine FS_yes _ rfl fun aq wd hph hfd hdd => ?_
          obtain ⟨hb0, hb1, hmo, _⟩ := hph
          have hfd := Fr.cast (s' := [(13, (.int .i64 nx)), (46, (.bool (kind == 1))), (12, (ptr b2 0)), (25, (.bool (!(goodN kind m u' gi' data target xs)))), (21, (.bool false)), (11, (.int .i64 0)), (10, (ptr n2.blk 0)), (9, (.int .i64 0)), (8, (.int .i64 0)), (7, (ptr b1 0)), (0, (ptr u 0)), (1, (.int .i64 d)), (2, (.string s)), (3, (.agg #[vn, (.int .i64 ino), (.int .i64 kind), (.int .i64 m), (.int .i64 u'), (.int .i64 gi'), vd, (.string target), vx, (.bool opq)]))]) hfd (by kernel_rfl)
          obtain ⟨e7, _⟩ := hdd
          have hfd := Fr.add (t := 73) (v := (ptr n2.blk 10)) hfd e7
          exact FL_val hfd rfl (by kernel_rfl) (load_ev (run_load_one hb1 Try.underlying80 rfl rfl) rfl rfl)
        · refine FS_yes _ rfl fun aq wd hph hfd hdd => ?_
          obtain ⟨hb0, hb1, hmo, _⟩ := hph
          have hfd := Fr.cast (s' := [(13, (.int .i64 nx)), (46, (.bool (kind == 1))), (12, (ptr b2 0)), (25, (.bool (!(goodN kind m u' gi' data target xs)))), (21, (.bool false)), (11, (.int .i64 0)), (10, (ptr n2.blk 0)), (9, (.int .i64 0)), (8, (.int .i64 0)), (7, (ptr b1 0)), (0, (ptr u 0)), (1, (.int .i64 d)), (2, (.string s)), (3, (.agg #[vn, (.int .i64 ino), (.int .i64 kind), (.int .i64 m), (.int .i64 u'), (.int .i64 gi'), vd, (.string target), vx, (.bool opq)]))]) hfd (by kernel_rfl)
          exact FL_val hfd rfl (by kernel_rfl) (by kernel_rfl)
        · refine FS_yes _ rfl fun aq wd hph hfd hdd => ?_
          obtain ⟨hb0, hb1, hmo, _⟩ := hph
          have hfd := Fr.cast (s' := [(13, (.int .i64 nx)), (46, (.bool (kind == 1))), (12, (ptr b2 0)), (25, (.bool (!(goodN kind m u' gi' data target xs)))), (21, (.bool false)), (11, (.int .i64 0)), (10, (ptr n2.blk 0)), (9, (.int .i64 0)), (8, (.int .i64 0)), (7, (ptr b1 0)), (0, (ptr u 0)), (1, (.int .i64 d)), (2, (.string s)), (3, (.agg #[vn, (.int .i64 ino), (.int .i64 kind), (.int .i64 m), (.int .i64 u'), (.int .i64 gi'), vd, (.string target), vx, (.bool opq)]))]) hfd (by kernel_rfl)
          exact FL_val hfd rfl (by kernel_rfl) (by kernel_rfl)
        · refine FS_yes _ rfl fun aq wd hph hfd hdd => ?_
          obtain ⟨hb0, hb1, hmo, _⟩ := hph
          have hfd := Fr.cast (s' := [(13, (.int .i64 nx)), (46, (.bool (kind == 1))), (12, (ptr b2 0)), (25, (.bool (!(goodN kind m u' gi' data target xs)))), (21, (.bool false)), (11, (.int .i64 0)), (10, (ptr n2.blk 0)), (9, (.int .i64 0)), (8, (.int .i64 0)), (7, (ptr b1 0)), (0, (ptr u 0)), (1, (.int .i64 d)), (2, (.string s)), (3, (.agg #[vn, (.int .i64 ino), (.int .i64 kind), (.int .i64 m), (.int .i64 u'), (.int .i64 gi'), vd, (.string target), vx, (.bool opq)]))]) hfd (by kernel_rfl)
          exact FL_val hfd rfl (by kernel_rfl) (by kernel_rfl)
        intro w16 l5 _
        replace H := H.le l5
        refine F_step ⟨(H.upR 0 kI).ublk, ((H.upR 0 kI).nodes _ _ hr1).blk, H.m, trivial⟩ ?_
        have kb11 := (H.upR 0 kI).ublk
        have kb12 := ((H.upR 0 kI).nodes _ _ hr1).blk
        obtain ⟨val3, st3, w17, hu5, Hn, hk5⟩ := SL.upEntry (P := Try.prog) H kI Try.underlying83 (z := .pointer none) (by kernel_rfl) (by assumption) nx wf_nx
        refine Rw (.tuple #[val3, goInt st3]) w17 (X_mapEntry rfl rfl rfl hu5) ?_
        replace H := Hn
        clear Hn
        have kb13 := hk5 _ _ _ kb11
        have kb14 := hk5 _ _ _ kb12
        refine wpR_nil ?_
        refine F_next ?_
        refine F_step ⟨kb13, kb14, H.m, trivial⟩ ?_
        refine Rv (goInt st3) w17 ?_
        refine wpR_nil ?_
        refine F_next ?_
        refine F_step ⟨kb13, kb14, H.m, trivial⟩ ?_
        replace H := SL.mapVnil ByteArray Try.prog uty.kS H
        replace H := H.pick 2
        replace H := H.pick 2
        obtain ⟨w18, hu6, Hn, hk6⟩ := SL.upAdd (P := Try.prog) (n := { blk := b2, kind := kind, mode := m, uid := u', gid := gi', vd := (.slice sa1 sn1 sk1), data := data, target := target, vx := (.slice sa2 sn2 sk2), xattrs := xs, opq := false, vi := (.map none), ents := [], up := 0, links := 1 }) (t := 83) H kI wf_nx hno qv3 qv5 (sz_ok (by omega)) (fun hk => absurd (beq_iff_eq.2 hk) (by simp [c2]))
        refine R_none (v := undef) rfl (by kernel_rfl) rfl (.inr (X_entryStore rfl rfl rfl rfl hu6)) ?_
        replace H := Hn
        clear Hn
        have kb15 := hk6 _ _ _ kb13
        have kb16 := hk6 _ _ _ kb14
        have hr4 : getK ((nx, { blk := b2, kind := kind, mode := m, uid := u', gid := gi', vd := (.slice sa1 sn1 sk1), data := data, target := target, vx := (.slice sa2 sn2 sk2), xattrs := xs, opq := false, vi := (.map none), ents := [], up := 0, links := 1 }) :: L) d = some n2 := by rw [getK_cons_ne (ref_ne hno hr1)]; exact hr1
        refine wpR_nil ?_
        refine F_next ?_
        refine F_step ⟨kb15, kb16, H.m, trivial⟩ ?_
        obtain ⟨ib2, val4, st4, w19, R2, hv2, hu7, Hn, hk7, back2⟩ := SL.entEntry (P := Try.prog) H kI kS hr4 fk1 Try.underlying80 (z := .int .i64 0) (by kernel_rfl) s (sz_ok (by first | omega | (simp only [maxLen] at *; omega))) (by assumption)
        refine Rw (.tuple #[val4, goInt st4]) w19 (X_mapEntry rfl rfl rfl hu7) ?_
        replace H := Hn
        clear Hn
        have kb17 := hk7 _ _ _ kb15
        have kb18 := hk7 _ _ _ kb16
        refine wpR_nil ?_
        refine F_next ?_
        refine F_step ⟨kb17, kb18, H.m, trivial⟩ ?_
        refine Rv (goInt st4) w19 ?_
        refine wpR_nil ?_
        refine F_next ?_
        refine F_step ⟨kb17, kb18, H.m, trivial⟩ ?_
        obtain ⟨w20, hu8, Hn, hk8⟩ := SL.entryStore H kS (sz_ok (by first | omega | (simp only [maxLen] at *; omega))) 80 (.int .i64 nx)
        rw [← hv2] at hu8
        refine R_none (v := undef) rfl (by kernel_rfl) rfl (.inr (X_entryStore rfl rfl rfl rfl hu8)) ?_
        replace H := back2 _ _ Hn
        clear Hn
        have kb19 := hk8 _ _ _ kb17
        have kb20 := hk8 _ _ _ kb18
        have hr5 : getK (setK ((nx, { blk := b2, kind := kind, mode := m, uid := u', gid := gi', vd := (.slice sa1 sn1 sk1), data := data, target := target, vx := (.slice sa2 sn2 sk2), xattrs := xs, opq := false, vi := (.map none), ents := [], up := 0, links := 1 }) :: L) d { n2 with ents := putK n2.ents s nx }) d = some { n2 with ents := putK n2.ents s nx } := getK_setK hr4
        refine wpR_nil ?_
        refine F_next ?_
        refine F_nil (.inl rfl) ?_
        refine E_then_normal ?_
        refine C_seq ?_
        refine Cs [(13, (.int .i64 nx)), (46, (.bool (kind == 1))), (12, (ptr b2 0)), (25, (.bool (!(goodN kind m u' gi' data target xs)))), (21, (.bool false)), (11, (.int .i64 0)), (10, (ptr n2.blk 0)), (9, (.int .i64 0)), (8, (.int .i64 0)), (7, (ptr b1 0)), (0, (ptr u 0)), (1, (.int .i64 d)), (2, (.string s)), (3, (.agg #[vn, (.int .i64 ino), (.int .i64 kind), (.int .i64 m), (.int .i64 u'), (.int .i64 gi'), vd, (.string target), vx, (.bool opq)]))] ?_
        refine C_region ?_
        refine Rv (.int .i64 nx) w20 ?_
        refine Rv (.int .i64 nx) w20 ?_
        refine Rv (.int .i64 0) w20 ?_
        refine wpR_nil ?_
        refine E_then_normal ?_
        refine C_ret ?_
        refine E_ret (res_two rfl rfl rfl) ⟨_, rfl, ?_⟩
        have er1 := getK_er_some hr1
        have ef := freshE_er L d s
        refine ⟨_, _, _, m1, (H.keep1 1), ?_, ?_, ?_⟩
        · (simp only [makeU, makeE, goodM, newU, er_setK, er_cons]; first | (simp_all; done) | (simp_all; omega))
        · (simp only [makeU, makeE, goodM, newU, er_setK, er_cons]; first | (simp_all; done) | (simp_all; omega))
        · refine tup_ii ?_ ?_ <;> (simp only [makeU, makeE, goodM, newU, er_setK, er_cons]; first | (simp_all; done) | (simp_all; omega))
  · refine Rc #[(ptr u 0), (.int .i64 d), (.string s)] w1 (fresh_no u mb q1 q2 nx L d s _ _ H.sees (H.upR 1 kI) wf_d (by first | omega | (simp only [maxLen] at *; omega)) hf1) ?_
    rintro _ w21 ⟨rfl, l6⟩
    replace H := H.le l6
    refine Rv (.tuple #[(.pointer none), (.int .i64 (freshE L d s))]) w21 ?_
    refine Rv (.pointer none) w21 ?_
    refine Rv (.int .i64 (freshE L d s)) w21 ?_
    refine Rv (.pointer none) w21 ?_
    refine Rv (.int .i64 (freshE L d s)) w21 ?_
    refine wpR_nil ?_
    refine E_then_normal ?_
    refine C_seq ?_
    refine C_block ?_
    refine C_seq ?_
    refine Cs [(11, (.int .i64 (freshE L d s))), (10, (.pointer none)), (9, (.int .i64 0)), (8, (.int .i64 0)), (7, (ptr b1 0)), (0, (ptr u 0)), (1, (.int .i64 d)), (2, (.string s)), (3, (.agg #[vn, (.int .i64 ino), (.int .i64 kind), (.int .i64 m), (.int .i64 u'), (.int .i64 gi'), vd, (.string target), vx, (.bool opq)]))] ?_
    refine C_region ?_
    refine Rv (.int .i64 (freshE L d s)) w21 ?_
    refine Rw (.bool true) w21 (eq_bool (by kernel_rfl) (congrArg Bool.not (beq_eq_false_iff_ne.2 hf1))) ?_
    refine Rv (.bool true) w21 ?_
    refine wpR_nil ?_
    refine E_then_normal ?_
    refine C_true rfl ?_
    refine C_seq ?_
    refine Cs [(21, (.bool true)), (11, (.int .i64 (freshE L d s))), (10, (.pointer none)), (9, (.int .i64 0)), (8, (.int .i64 0)), (7, (ptr b1 0)), (0, (ptr u 0)), (1, (.int .i64 d)), (2, (.string s)), (3, (.agg #[vn, (.int .i64 ino), (.int .i64 kind), (.int .i64 m), (.int .i64 u'), (.int .i64 gi'), vd, (.string target), vx, (.bool opq)]))] ?_
    refine C_region ?_
    refine Rv (.int .i64 (freshE L d s)) w21 ?_
    refine Rv (.int .i64 0) w21 ?_
    refine Rv (.int .i64 (freshE L d s)) w21 ?_
    refine wpR_nil ?_
    refine E_then_normal ?_
    refine C_ret ?_
    refine E_block_ret ?_
    refine E_then_ret ?_
    refine E_ret (res_two rfl rfl rfl) ⟨_, rfl, ?_⟩
    replace H := H.pick 1
    have ef := freshE_er L d s
    refine ⟨_, _, _, (Mono.refl _), (H.keep1 1), ?_, ?_, ?_⟩
    · (simp only [makeU, makeE, goodM, newU, er_setK, er_cons]; first | (simp_all; done) | (simp_all; omega))
    · (simp only [makeU, makeE, goodM, newU, er_setK, er_cons]; first | (simp_all; done) | (simp_all; omega))
    · refine tup_ii ?_ ?_ <;> (simp only [makeU, makeE, goodM, newU, er_setK, er_cons]; first | (simp_all; done) | (simp_all; omega))
end Go.Proofs.Ytnmaehdklmgfmaa
