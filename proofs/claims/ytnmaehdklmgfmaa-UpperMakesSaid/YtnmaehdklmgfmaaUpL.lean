/- UpperMakes, walked. (Printed by a program of mine.) -/
import Derived.Test.YtnmaehdklmgfmaaUpK
namespace Go.Proofs.Ytnmaehdklmgfmaa
open Go Go.RowKit Go.Lm
set_option linter.unusedVariables false in
set_option linter.unusedSimpArgs false in
set_option maxHeartbeats 4000000 in
set_option maxRecDepth 100000 in
theorem upperMakes_any (vn : Value) (ino kind m u' gi' : Int) (vd : Value) (data : List UInt8) (target : ByteArray) (vx : Value) (xs : List XattrD) (opq : Bool) (s : ByteArray) (more : Int) (g w : World) (sees : Sees g w)  (hd : Is g vd data) (hx : Is g vx xs) (ht : target.size ≤ 9223372036854775807) (hs : s.size ≤ 9223372036854775807) (hm0 : -9223372036854775808 ≤ more) (hm1 : more ≤ 9223372036854775807) : Ret Try.prog 3 #[(.agg #[vn, (.int .i64 ino), (.int .i64 kind), (.int .i64 m), (.int .i64 u'), (.int .i64 gi'), vd, (.string target), vx, (.bool opq)]), (.string s), (.int .i64 more)] w fun v w' => v = .bool true ∧ Le w w' := by
  have H := SL.start sees
  have ln_hd := hd.len_le
  have ln_hx := hx.len_le
  refine enter (args := [(.agg #[vn, (.int .i64 ino), (.int .i64 kind), (.int .i64 m), (.int .i64 u'), (.int .i64 gi'), vd, (.string target), vx, (.bool opq)]), (.string s), (.int .i64 more)]) Try.func3 rfl rfl rfl ?_
  refine C_seq ?_
  refine C_region ?_
  refine S_box rfl rfl rfl rfl rfl _ rfl fun b1 w1 n1 => ?_
  replace H := H.new n1
  refine Rv (.bool false) w1 ?_
  refine wpR_nil ?_
  refine E_then_normal ?_
  refine C_seq ?_
  refine C_region ?_
  refine Rc #[] w1 (shown_any _) ?_
  rintro _ w2 ⟨rfl, l1⟩
  replace H := H.le l1
  refine Rv (.bool true) w2 ?_
  refine wpR_nil ?_
  refine E_then_normal ?_
  refine C_seq ?_
  refine Cs [(7, (.bool true)), (6, (.bool false)), (3, (ptr b1 0)), (0, (.agg #[vn, (.int .i64 ino), (.int .i64 kind), (.int .i64 m), (.int .i64 u'), (.int .i64 gi'), vd, (.string target), vx, (.bool opq)])), (1, (.string s)), (2, (.int .i64 more))] ?_
  refine C_region ?_
  refine Rv (.agg #[(.int .i64 100), (.int .i64 100000)]) w2 ?_
  refine Rc #[(.agg #[(.int .i64 100), (.int .i64 100000)])] w2 (new_S 100 100000 _ _ _ _ H) ?_
  rintro _ w3 ⟨u1, rfl, Hn⟩
  replace H := Hn
  clear Hn
  refine Rv (ptr u1 0) w3 ?_
  refine wpR_nil ?_
  refine E_then_normal ?_
  refine C_seq ?_
  refine C_seq ?_
  refine Cs [(8, (ptr u1 0)), (7, (.bool true)), (6, (.bool false)), (3, (ptr b1 0)), (0, (.agg #[vn, (.int .i64 ino), (.int .i64 kind), (.int .i64 m), (.int .i64 u'), (.int .i64 gi'), vd, (.string target), vx, (.bool opq)])), (1, (.string s)), (2, (.int .i64 more))] ?_
  refine C_region ?_
  refine Rv (.bool true) w3 ?_
  refine Rv (.bool false) w3 ?_
  refine Rv (.bool false) w3 ?_
  refine Rv (ptr u1 0) w3 ?_
  refine Rv (.bool false) w3 ?_
  refine Rv (.bool false) w3 ?_
  refine wpR_nil ?_
  refine E_then_normal ?_
  refine C_false rfl ?_
  refine C_skip ?_
  refine E_then_normal ?_
  refine C_seq ?_
  refine Cs [(32, (.bool false)), (8, (ptr u1 0)), (7, (.bool true)), (6, (.bool false)), (3, (ptr b1 0)), (0, (.agg #[vn, (.int .i64 ino), (.int .i64 kind), (.int .i64 m), (.int .i64 u'), (.int .i64 gi'), vd, (.string target), vx, (.bool opq)])), (1, (.string s)), (2, (.int .i64 more))] ?_
  refine C_region ?_
  refine Rv (ptr u1 0) w3 ?_
  refine Rc #[(ptr u1 0)] w3 (used_S u1 100 100000 2 ([(1, rootU [])]) _ _ _ _ H 1 64 rfl rfl (by decide)) ?_
  rintro _ w4 ⟨rfl, l2⟩
  replace H := H.le l2
  refine S_alloc #[(.int .i64 0), (.int .i64 0)] (by kernel_rfl) rfl rfl rfl rfl fun b2 w5 n2 => ?_
  replace H := H.new n2
  refine S_store (H.blk 0) rfl rfl rfl rfl rfl (by kernel_rfl) rfl (Nat.le_of_ble_eq_true rfl) #[(.int .i64 1), (.int .i64 64)] rfl fun w6 u2 => ?_
  replace H := H.upd 0 u2
  refine wpR_nil ?_
  refine E_then_normal ?_
  refine C_seq ?_
  refine Cs [(9, (ptr b2 0)), (32, (.bool false)), (8, (ptr u1 0)), (7, (.bool true)), (6, (.bool false)), (3, (ptr b1 0)), (0, (.agg #[vn, (.int .i64 ino), (.int .i64 kind), (.int .i64 m), (.int .i64 u'), (.int .i64 gi'), vd, (.string target), vx, (.bool opq)])), (1, (.string s)), (2, (.int .i64 more))] ?_
  refine C_region ?_
  refine Rv (ptr u1 0) w6 ?_
  refine Rv (.string s) w6 ?_
  refine S_load (run_load_row (H.blk 2) Try.underlying28 rfl (vs := [vn, (.int .i64 ino), (.int .i64 kind), (.int .i64 m), (.int .i64 u'), (.int .i64 gi'), vd, (.string target), vx, (.bool opq)]) (by kernel_rfl) rfl) rfl rfl rfl rfl rfl ?_
  by_cases hm1 : makeE [(1, rootU [])] 1 s ⟨kind, m, u', gi', data, target, xs⟩ = 0
  · obtain ⟨hvs, hgm⟩ := mkGood hm1
    obtain ⟨gl1, gl2, gl3, gl4, gl5⟩ := good_lens (show goodN kind m u' gi' data target xs = true from hgm)
    have gl6 := fun x hx => Nat.le_trans (gl4 x hx).1 (by decide : 200 ≤ 1000000000000)
    have hsz : s.size ≤ 255 := valid_size hvs
    have hsx := sumX_nn xs
    have hsb := sumX_le xs gl4
    replace H := H.pick 1
    refine Rc #[(ptr u1 0), (.int .i64 1), (.string s), (.agg #[vn, (.int .i64 ino), (.int .i64 kind), (.int .i64 m), (.int .i64 u'), (.int .i64 gi'), vd, (.string target), vx, (.bool opq)])] w6 (make_S u1 100 100000 2 ([(1, rootU [])]) 1 s vn ino kind m u' gi' vd data target vx xs opq _ _ _ _ H 0 2 3 ([(2, newU ⟨kind, m, u', gi', data, target, xs⟩ 1), (1, rootU [(s, 2)])]) hm1 (mkYes hm1) rfl rfl (by decide) (by first | decide | omega | exact nm_size (by omega) (by omega) | (simp; omega)) hd hx (by first | decide | omega | exact nm_size (by omega) (by omega) | (simp; omega)) rfl (by decide) (by decide) (by decide) (ofGet rfl (by decide))) ?_
    rintro _ w7 ⟨g1, m1, Hn, rfl⟩
    replace H := Hn
    clear Hn
    refine Rv (.tuple #[(.int .i64 2), (.int .i64 0)]) w7 ?_
    refine Rv (.int .i64 2) w7 ?_
    refine Rv (.int .i64 0) w7 ?_
    refine Rv (.int .i64 2) w7 ?_
    refine Rv (.int .i64 0) w7 ?_
    refine wpR_nil ?_
    refine E_then_normal ?_
    refine C_seq ?_
    refine C_seq ?_
    refine Cs [(11, (.int .i64 0)), (10, (.int .i64 2)), (9, (ptr b2 0)), (32, (.bool false)), (8, (ptr u1 0)), (7, (.bool true)), (6, (.bool false)), (3, (ptr b1 0)), (0, (.agg #[vn, (.int .i64 ino), (.int .i64 kind), (.int .i64 m), (.int .i64 u'), (.int .i64 gi'), vd, (.string target), vx, (.bool opq)])), (1, (.string s)), (2, (.int .i64 more))] ?_
    refine C_region ?_
    refine Rv (.int .i64 0) w7 ?_
    refine Rv (.bool false) w7 ?_
    refine wpR_nil ?_
    refine E_then_normal ?_
    refine C_false rfl ?_
    refine C_skip ?_
    refine E_then_normal ?_
    refine C_seq ?_
    refine C_seq ?_
    refine Cs [(43, (.bool false)), (11, (.int .i64 0)), (10, (.int .i64 2)), (9, (ptr b2 0)), (32, (.bool false)), (8, (ptr u1 0)), (7, (.bool true)), (6, (.bool false)), (3, (ptr b1 0)), (0, (.agg #[vn, (.int .i64 ino), (.int .i64 kind), (.int .i64 m), (.int .i64 u'), (.int .i64 gi'), vd, (.string target), vx, (.bool opq)])), (1, (.string s)), (2, (.int .i64 more))] ?_
    refine C_region ?_
    refine Rv (ptr b1 8) w7 ?_
    refine S_load (run_load_one (H.blk 2) Try.underlying26 rfl rfl) rfl rfl rfl rfl rfl ?_
    refine Rw (.int .i64 (xs.length : Int)) w7 (X_len ((hx.mono m1).mono H.m) rfl Try.underlying26 rfl) ?_
    refine Rv (.bool (decide ((xs.length : Int) > 10))) w7 ?_
    rcases Bool.eq_false_or_eq_true (decide ((xs.length : Int) > 10)) with c1 | c1
    · have d1 : (xs.length : Int) > 10 := of_decide_eq_true c1
      refine Rw (.bool true) w7 (eq_bool (by kernel_rfl) c1) ?_
      iterate 4 refine Rs ?_
      refine Rv (.bool true) w7 ?_
      refine wpR_nil ?_
      refine E_then_normal ?_
      refine C_true rfl ?_
      refine C_seq ?_
      refine Cs [(61, (.bool true)), (43, (.bool false)), (11, (.int .i64 0)), (10, (.int .i64 2)), (9, (ptr b2 0)), (32, (.bool false)), (8, (ptr u1 0)), (7, (.bool true)), (6, (.bool false)), (3, (ptr b1 0)), (0, (.agg #[vn, (.int .i64 ino), (.int .i64 kind), (.int .i64 m), (.int .i64 u'), (.int .i64 gi'), vd, (.string target), vx, (.bool opq)])), (1, (.string s)), (2, (.int .i64 more))] ?_
      refine C_region ?_
      refine Rv (.bool false) w7 ?_
      refine wpR_nil ?_
      refine E_then_normal ?_
      refine C_ret ?_
      refine E_then_ret ?_
      refine E_ret (res_one rfl rfl) ⟨_, rfl, ?_⟩
      exfalso; first | omega | (simp_all; done) | (simp_all; omega) | (revert c1; simp [sameX_refl]; done) | (revert c1; simp [sameX_refl]; omega)
    · have d1 : ¬ (xs.length : Int) > 10 := of_decide_eq_false c1
      refine Rw (.bool false) w7 (eq_bool (by kernel_rfl) c1) ?_
      refine Rv (ptr b1 6) w7 ?_
      refine S_load (run_load_one (H.blk 2) Try.underlying25 rfl rfl) rfl rfl rfl rfl rfl ?_
      refine Rw (.int .i64 (data.length : Int)) w7 (X_len ((hd.mono m1).mono H.m) rfl Try.underlying25 rfl) ?_
      refine Rv (.bool (decide ((data.length : Int) > 4096))) w7 ?_
      refine Rv (.bool (decide ((data.length : Int) > 4096))) w7 ?_
      refine wpR_nil ?_
      refine E_then_normal ?_
      refine C_cond rfl (fun c2 => ?_) (fun c2 => ?_)
      · have d2 : (data.length : Int) > 4096 := of_decide_eq_true c2
        refine C_seq ?_
        refine Cs [(61, (.bool (decide ((data.length : Int) > 4096)))), (43, (.bool false)), (11, (.int .i64 0)), (10, (.int .i64 2)), (9, (ptr b2 0)), (32, (.bool false)), (8, (ptr u1 0)), (7, (.bool true)), (6, (.bool false)), (3, (ptr b1 0)), (0, (.agg #[vn, (.int .i64 ino), (.int .i64 kind), (.int .i64 m), (.int .i64 u'), (.int .i64 gi'), vd, (.string target), vx, (.bool opq)])), (1, (.string s)), (2, (.int .i64 more))] ?_
        refine C_region ?_
        refine Rv (.bool false) w7 ?_
        refine wpR_nil ?_
        refine E_then_normal ?_
        refine C_ret ?_
        refine E_then_ret ?_
        refine E_ret (res_one rfl rfl) ⟨_, rfl, ?_⟩
        exfalso; first | omega | (simp_all; done) | (simp_all; omega) | (revert c2; simp [sameX_refl]; done) | (revert c2; simp [sameX_refl]; omega)
      · have d2 : ¬ (data.length : Int) > 4096 := of_decide_eq_false c2
        refine C_skip ?_
        refine E_then_normal ?_
        refine C_seq ?_
        refine Cs [(61, (.bool (decide ((data.length : Int) > 4096)))), (43, (.bool false)), (11, (.int .i64 0)), (10, (.int .i64 2)), (9, (ptr b2 0)), (32, (.bool false)), (8, (ptr u1 0)), (7, (.bool true)), (6, (.bool false)), (3, (ptr b1 0)), (0, (.agg #[vn, (.int .i64 ino), (.int .i64 kind), (.int .i64 m), (.int .i64 u'), (.int .i64 gi'), vd, (.string target), vx, (.bool opq)])), (1, (.string s)), (2, (.int .i64 more))] ?_
        refine C_region ?_
        refine Rv (ptr u1 0) w7 ?_
        refine Rv (.int .i64 2) w7 ?_
        refine Rc #[(ptr u1 0), (.int .i64 2)] w7 (stat_S u1 100 100000 3 ([(2, newU ⟨kind, m, u', gi', data, target, xs⟩ 1), (1, rootU [(s, 2)])]) 2 (newU ⟨kind, m, u', gi', data, target, xs⟩ 1) _ _ _ _ H rfl (by show data.length + target.size + 0 ≤ _; omega) (by decide)) ?_
        rintro _ w8 ⟨rfl, l3⟩
        replace H := H.le l3
        refine Rv (.tuple #[(.agg #[(.int .i64 kind), (.int .i64 m), (.int .i64 u'), (.int .i64 gi'), (.int .i64 1), (.int .i64 ((data.length : Int) + (target.size : Int) + ((0 : Nat) : Int)))]), (.int .i64 0)]) w8 ?_
        refine Rv (.agg #[(.int .i64 kind), (.int .i64 m), (.int .i64 u'), (.int .i64 gi'), (.int .i64 1), (.int .i64 ((data.length : Int) + (target.size : Int) + ((0 : Nat) : Int)))]) w8 ?_
        refine Rv (.int .i64 0) w8 ?_
        refine S_alloc #[(.int .i64 0), (.int .i64 0), (.int .i64 0), (.int .i64 0), (.int .i64 0), (.int .i64 0)] (by kernel_rfl) rfl rfl rfl rfl fun b3 w9 n3 => ?_
        replace H := H.new n3
        refine S_store (H.blk 0) rfl rfl rfl rfl rfl (by kernel_rfl) rfl (Nat.le_of_ble_eq_true rfl) #[(.int .i64 kind), (.int .i64 m), (.int .i64 u'), (.int .i64 gi'), (.int .i64 1), (.int .i64 ((data.length : Int) + (target.size : Int) + ((0 : Nat) : Int)))] rfl fun w10 u3 => ?_
        replace H := H.upd 0 u3
        refine Rv (.int .i64 0) w10 ?_
        refine wpR_nil ?_
        refine E_then_normal ?_
        refine C_seq ?_
        refine Cs [(13, (.int .i64 0)), (12, (ptr b3 0)), (61, (.bool (decide ((data.length : Int) > 4096)))), (43, (.bool false)), (11, (.int .i64 0)), (10, (.int .i64 2)), (9, (ptr b2 0)), (32, (.bool false)), (8, (ptr u1 0)), (7, (.bool true)), (6, (.bool false)), (3, (ptr b1 0)), (0, (.agg #[vn, (.int .i64 ino), (.int .i64 kind), (.int .i64 m), (.int .i64 u'), (.int .i64 gi'), vd, (.string target), vx, (.bool opq)])), (1, (.string s)), (2, (.int .i64 more))] ?_
        refine C_region ?_
        refine Rv (ptr u1 0) w10 ?_
        refine Rv (.int .i64 2) w10 ?_
        refine Rc #[(ptr u1 0), (.int .i64 2)] w10 (xattrs_S u1 100 100000 3 ([(2, newU ⟨kind, m, u', gi', data, target, xs⟩ 1), (1, rootU [(s, 2)])]) 2 (newU ⟨kind, m, u', gi', data, target, xs⟩ 1) _ _ _ _ (H.pick 1) rfl (by decide) (by show xs.length ≤ _; omega) gl6) ?_
        rintro _ w11 ⟨v1, rfl, hx1, l4⟩
        obtain ⟨g2, hg1, m2, H⟩ := H.data l4
        rw [hg1] at hx1
        have ln_hx1 := hx1.len_le
        refine Rv (.tuple #[v1, (.int .i64 0)]) w11 ?_
        refine Rv v1 w11 ?_
        refine Rv (.int .i64 0) w11 ?_
        refine Rv v1 w11 ?_
        refine Rv (.int .i64 0) w11 ?_
        refine wpR_nil ?_
        refine E_then_normal ?_
        refine C_seq ?_
        refine Cs [(15, (.int .i64 0)), (14, v1), (13, (.int .i64 0)), (12, (ptr b3 0)), (61, (.bool (decide ((data.length : Int) > 4096)))), (43, (.bool false)), (11, (.int .i64 0)), (10, (.int .i64 2)), (9, (ptr b2 0)), (32, (.bool false)), (8, (ptr u1 0)), (7, (.bool true)), (6, (.bool false)), (3, (ptr b1 0)), (0, (.agg #[vn, (.int .i64 ino), (.int .i64 kind), (.int .i64 m), (.int .i64 u'), (.int .i64 gi'), vd, (.string target), vx, (.bool opq)])), (1, (.string s)), (2, (.int .i64 more))] ?_
        refine C_region ?_
        refine Rv v1 w11 ?_
        refine Rv (ptr b1 8) w11 ?_
        refine S_load (run_load_one (H.blk 3) Try.underlying26 rfl rfl) rfl rfl rfl rfl rfl ?_
        refine Rc #[v1, vx] w11 (same17_any xs xs v1 vx _ _ H.sees hx1 (hx.mono (m1.trans m2))) ?_
        rintro _ w12 ⟨rfl, l5⟩
        replace H := H.le l5
        refine Rv (.bool (sameX xs xs)) w12 ?_
        refine wpR_nil ?_
        refine E_then_normal ?_
        refine C_seq ?_
        refine Cs [(16, (.bool (sameX xs xs))), (15, (.int .i64 0)), (14, v1), (13, (.int .i64 0)), (12, (ptr b3 0)), (61, (.bool (decide ((data.length : Int) > 4096)))), (43, (.bool false)), (11, (.int .i64 0)), (10, (.int .i64 2)), (9, (ptr b2 0)), (32, (.bool false)), (8, (ptr u1 0)), (7, (.bool true)), (6, (.bool false)), (3, (ptr b1 0)), (0, (.agg #[vn, (.int .i64 ino), (.int .i64 kind), (.int .i64 m), (.int .i64 u'), (.int .i64 gi'), vd, (.string target), vx, (.bool opq)])), (1, (.string s)), (2, (.int .i64 more))] ?_
        refine C_region ?_
        refine Rv (ptr b1 6) w12 ?_
        refine S_load (run_load_one (H.blk 3) Try.underlying25 rfl rfl) rfl rfl rfl rfl rfl ?_
        refine Rw (.int .i64 (data.length : Int)) w12 (X_len ((hd.mono (m1.trans m2)).mono H.m) rfl Try.underlying25 rfl) ?_
        refine Rv (ptr b1 7) w12 ?_
        refine S_load (run_load_one (H.blk 3) Try.underlying9 rfl rfl) rfl rfl rfl rfl rfl ?_
        refine Rw (.int .i64 (target.size : Int)) w12 (X_len_str rfl Try.underlying9 rfl) ?_
        refine Rw (.int .i64 ((data.length : Int) + (target.size : Int))) w12 (eq_int (by kernel_rfl) (wrap64_in (by first | decide | omega | exact nm_size (by omega) (by omega) | (simp; omega)) (by first | decide | omega | exact nm_size (by omega) (by omega) | (simp; omega)))) ?_
        refine Rv (.int .i64 ((data.length : Int) + (target.size : Int))) w12 ?_
        refine wpR_nil ?_
        refine E_then_normal ?_
        refine C_seq ?_
        refine C_seq ?_
        refine Cs [(17, (.int .i64 ((data.length : Int) + (target.size : Int)))), (16, (.bool (sameX xs xs))), (15, (.int .i64 0)), (14, v1), (13, (.int .i64 0)), (12, (ptr b3 0)), (61, (.bool (decide ((data.length : Int) > 4096)))), (43, (.bool false)), (11, (.int .i64 0)), (10, (.int .i64 2)), (9, (ptr b2 0)), (32, (.bool false)), (8, (ptr u1 0)), (7, (.bool true)), (6, (.bool false)), (3, (ptr b1 0)), (0, (.agg #[vn, (.int .i64 ino), (.int .i64 kind), (.int .i64 m), (.int .i64 u'), (.int .i64 gi'), vd, (.string target), vx, (.bool opq)])), (1, (.string s)), (2, (.int .i64 more))] ?_
        refine C_region ?_
        refine Rv (.int .i64 0) w12 ?_
        refine Rv (.bool false) w12 ?_
        refine Rv (.bool false) w12 ?_
        refine Rv (.int .i64 0) w12 ?_
        refine Rv (.bool false) w12 ?_
        refine Rv (.bool false) w12 ?_
        refine Rv (.bool false) w12 ?_
        refine Rv (.bool (sameX xs xs)) w12 ?_
        refine Rv (.bool (!(sameX xs xs))) w12 ?_
        refine Rv (.bool (!(sameX xs xs))) w12 ?_
        rcases Bool.eq_false_or_eq_true (!(sameX xs xs)) with c3 | c3
        · refine Rw (.bool true) w12 (eq_bool (by kernel_rfl) c3) ?_
          iterate 8 refine Rs ?_
          refine Rv (.bool true) w12 ?_
          refine Rv (.bool true) w12 ?_
          iterate 3 refine Rs ?_
          refine Rv (.bool true) w12 ?_
          refine wpR_nil ?_
          refine E_then_normal ?_
          refine C_true rfl ?_
          refine C_seq ?_
          refine Cs [(109, (.bool true)), (17, (.int .i64 ((data.length : Int) + (target.size : Int)))), (16, (.bool (sameX xs xs))), (15, (.int .i64 0)), (14, v1), (13, (.int .i64 0)), (12, (ptr b3 0)), (61, (.bool (decide ((data.length : Int) > 4096)))), (43, (.bool false)), (11, (.int .i64 0)), (10, (.int .i64 2)), (9, (ptr b2 0)), (32, (.bool false)), (8, (ptr u1 0)), (7, (.bool true)), (6, (.bool false)), (3, (ptr b1 0)), (0, (.agg #[vn, (.int .i64 ino), (.int .i64 kind), (.int .i64 m), (.int .i64 u'), (.int .i64 gi'), vd, (.string target), vx, (.bool opq)])), (1, (.string s)), (2, (.int .i64 more))] ?_
          refine C_region ?_
          refine Rv (.bool false) w12 ?_
          refine wpR_nil ?_
          refine E_then_normal ?_
          refine C_ret ?_
          refine E_then_ret ?_
          refine E_ret (res_one rfl rfl) ⟨_, rfl, ?_⟩
          exfalso; first | omega | (simp_all; done) | (simp_all; omega) | (revert c3; simp [sameX_refl]; done) | (revert c3; simp [sameX_refl]; omega)
        · refine Rw (.bool false) w12 (eq_bool (by kernel_rfl) c3) ?_
          refine S_load (run_load_row (H.blk 0) Try.underlying39 rfl (vs := [(.int .i64 kind), (.int .i64 m), (.int .i64 u'), (.int .i64 gi'), (.int .i64 1), (.int .i64 ((data.length : Int) + (target.size : Int) + ((0 : Nat) : Int)))]) (by kernel_rfl) rfl) rfl rfl rfl rfl rfl ?_
          refine Rv (ptr b1 2) w12 ?_
          refine S_load (run_load_one (H.blk 3) Try.underlying3 rfl rfl) rfl rfl rfl rfl rfl ?_
          refine Rv (ptr b1 3) w12 ?_
          refine S_load (run_load_row (H.blk 3) Try.underlying24 rfl (vs := [(.int .i64 m), (.int .i64 u'), (.int .i64 gi')]) (by kernel_rfl) rfl) rfl rfl rfl rfl rfl ?_
          refine Rv (.int .i64 ((data.length : Int) + (target.size : Int))) w12 ?_
          refine Rv (.agg #[(.int .i64 kind), (.int .i64 m), (.int .i64 u'), (.int .i64 gi'), (.int .i64 1), (.int .i64 ((data.length : Int) + (target.size : Int)))]) w12 ?_
          refine Rw (.bool (!((kind == kind) && (((m == m) && ((u' == u') && ((gi' == gi') && true))) && ((1 == 1) && ((((data.length : Int) + (target.size : Int) + ((0 : Nat) : Int)) == ((data.length : Int) + (target.size : Int))) && true)))))) w12 (X_neq_struct rfl rfl rfl Try.underlying39 (by kernel_rfl) (by kernel_rfl) (eqF_int rfl Try.underlying3 (by kernel_rfl) rfl rfl (eqF_struct (n := 3) rfl Try.underlying24 (by kernel_rfl) (by kernel_rfl) (eqF_int rfl Try.underlying3 (by kernel_rfl) rfl rfl (eqF_int rfl Try.underlying3 (by kernel_rfl) rfl rfl (eqF_int rfl Try.underlying3 (by kernel_rfl) rfl rfl (eqF_nil)))) (eqF_int rfl Try.underlying3 (by kernel_rfl) rfl rfl (eqF_int rfl Try.underlying3 (by kernel_rfl) rfl rfl (eqF_nil)))))) ?_
          refine Rv (.bool (!((kind == kind) && (((m == m) && ((u' == u') && ((gi' == gi') && true))) && ((1 == 1) && ((((data.length : Int) + (target.size : Int) + ((0 : Nat) : Int)) == ((data.length : Int) + (target.size : Int))) && true)))))) w12 ?_
          rcases Bool.eq_false_or_eq_true (!((kind == kind) && (((m == m) && ((u' == u') && ((gi' == gi') && true))) && ((1 == 1) && ((((data.length : Int) + (target.size : Int) + ((0 : Nat) : Int)) == ((data.length : Int) + (target.size : Int))) && true))))) with c4 | c4
          · refine Rw (.bool true) w12 (eq_bool (by kernel_rfl) c4) ?_
            iterate 3 refine Rs ?_
            refine Rv (.bool true) w12 ?_
            refine wpR_nil ?_
            refine E_then_normal ?_
            refine C_true rfl ?_
            refine C_seq ?_
            refine Cs [(109, (.bool true)), (17, (.int .i64 ((data.length : Int) + (target.size : Int)))), (16, (.bool (sameX xs xs))), (15, (.int .i64 0)), (14, v1), (13, (.int .i64 0)), (12, (ptr b3 0)), (61, (.bool (decide ((data.length : Int) > 4096)))), (43, (.bool false)), (11, (.int .i64 0)), (10, (.int .i64 2)), (9, (ptr b2 0)), (32, (.bool false)), (8, (ptr u1 0)), (7, (.bool true)), (6, (.bool false)), (3, (ptr b1 0)), (0, (.agg #[vn, (.int .i64 ino), (.int .i64 kind), (.int .i64 m), (.int .i64 u'), (.int .i64 gi'), vd, (.string target), vx, (.bool opq)])), (1, (.string s)), (2, (.int .i64 more))] ?_
            refine C_region ?_
            refine Rv (.bool false) w12 ?_
            refine wpR_nil ?_
            refine E_then_normal ?_
            refine C_ret ?_
            refine E_then_ret ?_
            refine E_ret (res_one rfl rfl) ⟨_, rfl, ?_⟩
            exfalso; first | omega | (simp_all; done) | (simp_all; omega) | (revert c4; simp [sameX_refl]; done) | (revert c4; simp [sameX_refl]; omega)
          · refine Rw (.bool false) w12 (eq_bool (by kernel_rfl) c4) ?_
            refine Rv (ptr u1 0) w12 ?_
            refine Rv (.int .i64 2) w12 ?_
            refine Rc #[(ptr u1 0), (.int .i64 2)] w12 (opaque_S u1 100 100000 3 ([(2, newU ⟨kind, m, u', gi', data, target, xs⟩ 1), (1, rootU [(s, 2)])]) 2 (newU ⟨kind, m, u', gi', data, target, xs⟩ 1) _ _ _ _ (H.pick 1) rfl (by decide)) ?_
            rintro _ w13 ⟨rfl, l6⟩
            replace H := H.le l6
            refine Rv (.bool false) w13 ?_
            refine wpR_nil ?_
            refine E_then_normal ?_
            refine C_false rfl ?_
            refine C_skip ?_
            refine E_then_normal ?_
            refine C_seq ?_
            refine Cs [(109, (.bool false)), (17, (.int .i64 ((data.length : Int) + (target.size : Int)))), (16, (.bool (sameX xs xs))), (15, (.int .i64 0)), (14, v1), (13, (.int .i64 0)), (12, (ptr b3 0)), (61, (.bool (decide ((data.length : Int) > 4096)))), (43, (.bool false)), (11, (.int .i64 0)), (10, (.int .i64 2)), (9, (ptr b2 0)), (32, (.bool false)), (8, (ptr u1 0)), (7, (.bool true)), (6, (.bool false)), (3, (ptr b1 0)), (0, (.agg #[vn, (.int .i64 ino), (.int .i64 kind), (.int .i64 m), (.int .i64 u'), (.int .i64 gi'), vd, (.string target), vx, (.bool opq)])), (1, (.string s)), (2, (.int .i64 more))] ?_
            refine C_region ?_
            refine Rv (.int .i64 ((data.length : Int) + (target.size : Int))) w13 ?_
            refine Rw (.int .i64 (64 + ((data.length : Int) + (target.size : Int)))) w13 (eq_int (by kernel_rfl) (wrap64_in (by first | decide | omega | exact nm_size (by omega) (by omega) | (simp; omega)) (by first | decide | omega | exact nm_size (by omega) (by omega) | (simp; omega)))) ?_
            refine Rv (.string s) w13 ?_
            refine Rw (.int .i64 (s.size : Int)) w13 (X_len_str rfl Try.underlying9 rfl) ?_
            refine Rw (.int .i64 ((64 + ((data.length : Int) + (target.size : Int))) + (s.size : Int))) w13 (eq_int (by kernel_rfl) (wrap64_in (by first | decide | omega | exact nm_size (by omega) (by omega) | (simp; omega)) (by first | decide | omega | exact nm_size (by omega) (by omega) | (simp; omega)))) ?_
            refine Rv (.int .i64 ((64 + ((data.length : Int) + (target.size : Int))) + (s.size : Int))) w13 ?_
            refine wpR_nil ?_
            refine E_then_normal ?_
            refine C_seq ?_
            refine C_seq ?_
            refine Cs [(18, (.int .i64 ((64 + ((data.length : Int) + (target.size : Int))) + (s.size : Int)))), (109, (.bool false)), (17, (.int .i64 ((data.length : Int) + (target.size : Int)))), (16, (.bool (sameX xs xs))), (15, (.int .i64 0)), (14, v1), (13, (.int .i64 0)), (12, (ptr b3 0)), (61, (.bool (decide ((data.length : Int) > 4096)))), (43, (.bool false)), (11, (.int .i64 0)), (10, (.int .i64 2)), (9, (ptr b2 0)), (32, (.bool false)), (8, (ptr u1 0)), (7, (.bool true)), (6, (.bool false)), (3, (ptr b1 0)), (0, (.agg #[vn, (.int .i64 ino), (.int .i64 kind), (.int .i64 m), (.int .i64 u'), (.int .i64 gi'), vd, (.string target), vx, (.bool opq)])), (1, (.string s)), (2, (.int .i64 more))] ?_
            refine C_region ?_
            refine Rv (.int .i64 0) w13 ?_
            refine wpR_nil ?_
            refine E_then_normal ?_
            refine C_block ?_
            refine C_loop (ι := Int × Int) (fun (i : Int × Int) => match i with | (ix, by_) => [(19, (.int .i64 ix)), (18, (.int .i64 by_)), (109, (.bool false)), (17, (.int .i64 ((data.length : Int) + (target.size : Int)))), (16, (.bool (sameX xs xs))), (15, (.int .i64 0)), (14, v1), (13, (.int .i64 0)), (12, (ptr b3 0)), (61, (.bool (decide ((data.length : Int) > 4096)))), (43, (.bool false)), (11, (.int .i64 0)), (10, (.int .i64 2)), (9, (ptr b2 0)), (32, (.bool false)), (8, (ptr u1 0)), (7, (.bool true)), (6, (.bool false)), (3, (ptr b1 0)), (0, (.agg #[vn, (.int .i64 ino), (.int .i64 kind), (.int .i64 m), (.int .i64 u'), (.int .i64 gi'), vd, (.string target), vx, (.bool opq)])), (1, (.string s)), (2, (.int .i64 more))]) (fun (i : Int × Int) w' => match i with | (ix, by_) => 0 ≤ ix ∧ ix ≤ xs.length ∧ 0 ≤ by_ ∧ by_ + sumX (xs.drop ix.toNat) = 64 + (data.length : Int) + (target.size : Int) + (s.size : Int) + sumX xs ∧ SL ⟨w, g⟩ g2 w' [blk b3 #[(.int .i64 kind), (.int .i64 m), (.int .i64 u'), (.int .i64 gi'), (.int .i64 1), (.int .i64 ((data.length : Int) + (target.size : Int) + ((0 : Nat) : Int)))] 39, upS Try.prog uty u1 100 100000 3 ([(2, newU ⟨kind, m, u', gi', data, target, xs⟩ 1), (1, rootU [(s, 2)])]), blk b2 #[(.int .i64 1), (.int .i64 64)] 33, blk b1 #[vn, (.int .i64 ino), (.int .i64 kind), (.int .i64 m), (.int .i64 u'), (.int .i64 gi'), vd, (.string target), vx, (.bool opq)] 28]) (fun (i : Int × Int) => match i with | (ix, by_) => ((xs.length : Int) - ix).toNat) (0, (64 + ((data.length : Int) + (target.size : Int))) + (s.size : Int)) ⟨rfl, rfl, rfl, rfl, rfl, rfl, rfl, rfl, rfl, rfl, rfl, rfl, rfl, rfl, rfl, rfl, rfl, rfl, rfl, rfl, rfl, rfl, trivial⟩ ⟨by omega, by omega, by omega, by show _ + sumX xs = _; omega, H⟩ ?_
            clear H
            rintro ⟨ix, by_⟩ w14 ⟨hi0, his, hb0, hby, H⟩
            refine Cs [(19, (.int .i64 ix)), (18, (.int .i64 by_)), (109, (.bool false)), (17, (.int .i64 ((data.length : Int) + (target.size : Int)))), (16, (.bool (sameX xs xs))), (15, (.int .i64 0)), (14, v1), (13, (.int .i64 0)), (12, (ptr b3 0)), (61, (.bool (decide ((data.length : Int) > 4096)))), (43, (.bool false)), (11, (.int .i64 0)), (10, (.int .i64 2)), (9, (ptr b2 0)), (32, (.bool false)), (8, (ptr u1 0)), (7, (.bool true)), (6, (.bool false)), (3, (ptr b1 0)), (0, (.agg #[vn, (.int .i64 ino), (.int .i64 kind), (.int .i64 m), (.int .i64 u'), (.int .i64 gi'), vd, (.string target), vx, (.bool opq)])), (1, (.string s)), (2, (.int .i64 more))] ?_
            have hs2 := sumX_nn (xs.drop ix.toNat)
            refine C_seq ?_
            refine C_seq ?_
            refine C_region ?_
            refine Rv (.int .i64 ix) w14 ?_
            refine Rv (ptr b1 8) w14 ?_
            refine S_load (run_load_one (H.blk 3) Try.underlying26 rfl rfl) rfl rfl rfl rfl rfl ?_
            refine Rw (.int .i64 (xs.length : Int)) w14 (X_len ((hx.mono (m1.trans m2)).mono H.m) rfl Try.underlying26 rfl) ?_
            refine Rv (.bool (decide (ix < (xs.length : Int)))) w14 ?_
            refine wpR_nil ?_
            refine E_then_normal ?_
            refine C_cond rfl (fun c5 => ?_) (fun c5 => ?_)
            · have d5 : ix < (xs.length : Int) := of_decide_eq_true c5
              refine C_skip ?_
              refine E_then_normal ?_
              refine C_seq ?_
              refine C_block ?_
              refine Cs [(119, (.bool (decide (ix < (xs.length : Int))))), (19, (.int .i64 ix)), (18, (.int .i64 by_)), (109, (.bool false)), (17, (.int .i64 ((data.length : Int) + (target.size : Int)))), (16, (.bool (sameX xs xs))), (15, (.int .i64 0)), (14, v1), (13, (.int .i64 0)), (12, (ptr b3 0)), (61, (.bool (decide ((data.length : Int) > 4096)))), (43, (.bool false)), (11, (.int .i64 0)), (10, (.int .i64 2)), (9, (ptr b2 0)), (32, (.bool false)), (8, (ptr u1 0)), (7, (.bool true)), (6, (.bool false)), (3, (ptr b1 0)), (0, (.agg #[vn, (.int .i64 ino), (.int .i64 kind), (.int .i64 m), (.int .i64 u'), (.int .i64 gi'), vd, (.string target), vx, (.bool opq)])), (1, (.string s)), (2, (.int .i64 more))] ?_
              have hxd := sumX_drop (l := xs) (k := ix) (by omega) (by omega)
              have hs4 := sumX_nn (xs.drop (ix + 1).toNat)
              obtain ⟨vx1, hc1, hx2, hn1⟩ := xattr_at (i := ix) (hx.mono (m1.trans m2)) (by first | decide | omega | exact nm_size (by omega) (by omega) | (simp; omega)) (by first | decide | omega | exact nm_size (by omega) (by omega) | (simp; omega))
              have ln_hx2 := hx2.len_le
              unfold maxLen at hn1
              refine C_drawT 16 [fun _ v => v = (.int .i64 by_), fun _ v => v = (ptr b1 8), fun _ v => v = vx, fun _ v => v = (.int .i64 ix), fun _ v => v = (elemP 2 vx ix), fun _ v => v = (addP (elemP 2 vx ix) 0), fun _ v => v = (.string ((nth xs ix).v.1)), fun _ v => v = (.int .i64 (((nth xs ix).v.1).size : Int)), fun _ v => v = (.int .i64 (by_ + (((nth xs ix).v.1).size : Int))), fun _ v => v = (ptr b1 8), fun _ v => v = vx, fun _ v => v = (.int .i64 ix), fun _ v => v = (elemP 2 vx ix), fun _ v => v = (addP (elemP 2 vx ix) 1), fun _ v => v = vx1, fun _ v => v = (.int .i64 (((nth xs ix).v.2.1).length : Int))] (by kernel_rfl) (by kernel_rfl) (by kernel_rfl) (by kernel_rfl) ⟨stab_exact _, stab_exact _, stab_exact _, stab_exact _, stab_exact _, stab_exact _, stab_exact _, stab_exact _, stab_exact _, stab_exact _, stab_exact _, stab_exact _, stab_exact _, stab_exact _, stab_exact _, stab_exact _, trivial⟩ ⟨?_, ?_, ?_, ?_, ?_, ?_, ?_, ?_, ?_, ?_, ?_, ?_, ?_, ?_, ?_, ?_, trivial⟩ ?_
              · intro aq wd ld hfd hdd
                have hfd := Fr.cast (s' := [(119, (.bool (decide (ix < (xs.length : Int))))), (19, (.int .i64 ix)), (18, (.int .i64 by_)), (109, (.bool false)), (17, (.int .i64 ((data.length : Int) + (target.size : Int)))), (16, (.bool (sameX xs xs))), (15, (.int .i64 0)), (14, v1), (13, (.int .i64 0)), (12, (ptr b3 0)), (61, (.bool (decide ((data.length : Int) > 4096)))), (43, (.bool false)), (11, (.int .i64 0)), (10, (.int .i64 2)), (9, (ptr b2 0)), (32, (.bool false)), (8, (ptr u1 0)), (7, (.bool true)), (6, (.bool false)), (3, (ptr b1 0)), (0, (.agg #[vn, (.int .i64 ino), (.int .i64 kind), (.int .i64 m), (.int .i64 u'), (.int .i64 gi'), vd, (.string target), vx, (.bool opq)])), (1, (.string s)), (2, (.int .i64 more))]) hfd (by kernel_rfl)
                exact G_val (v := (.int .i64 by_)) (w' := wd) hfd rfl (by kernel_rfl) (by kernel_rfl) (Le.refl _) rfl
              · intro aq wd ld hfd hdd
                have hfd := Fr.cast (s' := [(119, (.bool (decide (ix < (xs.length : Int))))), (19, (.int .i64 ix)), (18, (.int .i64 by_)), (109, (.bool false)), (17, (.int .i64 ((data.length : Int) + (target.size : Int)))), (16, (.bool (sameX xs xs))), (15, (.int .i64 0)), (14, v1), (13, (.int .i64 0)), (12, (ptr b3 0)), (61, (.bool (decide ((data.length : Int) > 4096)))), (43, (.bool false)), (11, (.int .i64 0)), (10, (.int .i64 2)), (9, (ptr b2 0)), (32, (.bool false)), (8, (ptr u1 0)), (7, (.bool true)), (6, (.bool false)), (3, (ptr b1 0)), (0, (.agg #[vn, (.int .i64 ino), (.int .i64 kind), (.int .i64 m), (.int .i64 u'), (.int .i64 gi'), vd, (.string target), vx, (.bool opq)])), (1, (.string s)), (2, (.int .i64 more))]) hfd (by kernel_rfl)
                exact G_val (v := (ptr b1 8)) (w' := wd) hfd rfl (by kernel_rfl) (by kernel_rfl) (Le.refl _) rfl
              · intro aq wd ld hfd hdd
                have hfd := Fr.cast (s' := [(119, (.bool (decide (ix < (xs.length : Int))))), (19, (.int .i64 ix)), (18, (.int .i64 by_)), (109, (.bool false)), (17, (.int .i64 ((data.length : Int) + (target.size : Int)))), (16, (.bool (sameX xs xs))), (15, (.int .i64 0)), (14, v1), (13, (.int .i64 0)), (12, (ptr b3 0)), (61, (.bool (decide ((data.length : Int) > 4096)))), (43, (.bool false)), (11, (.int .i64 0)), (10, (.int .i64 2)), (9, (ptr b2 0)), (32, (.bool false)), (8, (ptr u1 0)), (7, (.bool true)), (6, (.bool false)), (3, (ptr b1 0)), (0, (.agg #[vn, (.int .i64 ino), (.int .i64 kind), (.int .i64 m), (.int .i64 u'), (.int .i64 gi'), vd, (.string target), vx, (.bool opq)])), (1, (.string s)), (2, (.int .i64 more))]) hfd (by kernel_rfl)
                obtain ⟨e1, _⟩ := hdd
                have hfd := Fr.add (t := 123) (v := (ptr b1 8)) hfd e1
                exact G_val hfd rfl (by kernel_rfl) (load_ev (run_load_one ((H.le ld).blk 3) Try.underlying26 rfl rfl) rfl rfl) (Le.refl _) rfl
              · intro aq wd ld hfd hdd
                have hfd := Fr.cast (s' := [(119, (.bool (decide (ix < (xs.length : Int))))), (19, (.int .i64 ix)), (18, (.int .i64 by_)), (109, (.bool false)), (17, (.int .i64 ((data.length : Int) + (target.size : Int)))), (16, (.bool (sameX xs xs))), (15, (.int .i64 0)), (14, v1), (13, (.int .i64 0)), (12, (ptr b3 0)), (61, (.bool (decide ((data.length : Int) > 4096)))), (43, (.bool false)), (11, (.int .i64 0)), (10, (.int .i64 2)), (9, (ptr b2 0)), (32, (.bool false)), (8, (ptr u1 0)), (7, (.bool true)), (6, (.bool false)), (3, (ptr b1 0)), (0, (.agg #[vn, (.int .i64 ino), (.int .i64 kind), (.int .i64 m), (.int .i64 u'), (.int .i64 gi'), vd, (.string target), vx, (.bool opq)])), (1, (.string s)), (2, (.int .i64 more))]) hfd (by kernel_rfl)
                exact G_val (v := (.int .i64 ix)) (w' := wd) hfd rfl (by kernel_rfl) (by kernel_rfl) (Le.refl _) rfl
              · intro aq wd ld hfd hdd
                have hfd := Fr.cast (s' := [(119, (.bool (decide (ix < (xs.length : Int))))), (19, (.int .i64 ix)), (18, (.int .i64 by_)), (109, (.bool false)), (17, (.int .i64 ((data.length : Int) + (target.size : Int)))), (16, (.bool (sameX xs xs))), (15, (.int .i64 0)), (14, v1), (13, (.int .i64 0)), (12, (ptr b3 0)), (61, (.bool (decide ((data.length : Int) > 4096)))), (43, (.bool false)), (11, (.int .i64 0)), (10, (.int .i64 2)), (9, (ptr b2 0)), (32, (.bool false)), (8, (ptr u1 0)), (7, (.bool true)), (6, (.bool false)), (3, (ptr b1 0)), (0, (.agg #[vn, (.int .i64 ino), (.int .i64 kind), (.int .i64 m), (.int .i64 u'), (.int .i64 gi'), vd, (.string target), vx, (.bool opq)])), (1, (.string s)), (2, (.int .i64 more))]) hfd (by kernel_rfl)
                obtain ⟨e2, e3, _⟩ := hdd
                have hfd := Fr.add (t := 124) (v := vx) hfd e2
                have hfd := Fr.add (t := 125) (v := (.int .i64 ix)) hfd e3
                exact G_val (v := (elemP 2 vx ix)) (w' := wd) hfd rfl (by kernel_rfl) (X_indexAddr ((hx.mono (m1.trans m2)).mono (H.le ld).m) (by first | decide | omega | exact nm_size (by omega) (by omega) | (simp; omega)) (by first | decide | omega | exact nm_size (by omega) (by omega) | (simp; omega)) rfl Try.underlying26 (by kernel_rfl) rfl rfl) (Le.refl _) rfl
              · intro aq wd ld hfd hdd
                have hfd := Fr.cast (s' := [(119, (.bool (decide (ix < (xs.length : Int))))), (19, (.int .i64 ix)), (18, (.int .i64 by_)), (109, (.bool false)), (17, (.int .i64 ((data.length : Int) + (target.size : Int)))), (16, (.bool (sameX xs xs))), (15, (.int .i64 0)), (14, v1), (13, (.int .i64 0)), (12, (ptr b3 0)), (61, (.bool (decide ((data.length : Int) > 4096)))), (43, (.bool false)), (11, (.int .i64 0)), (10, (.int .i64 2)), (9, (ptr b2 0)), (32, (.bool false)), (8, (ptr u1 0)), (7, (.bool true)), (6, (.bool false)), (3, (ptr b1 0)), (0, (.agg #[vn, (.int .i64 ino), (.int .i64 kind), (.int .i64 m), (.int .i64 u'), (.int .i64 gi'), vd, (.string target), vx, (.bool opq)])), (1, (.string s)), (2, (.int .i64 more))]) hfd (by kernel_rfl)
                obtain ⟨e4, _⟩ := hdd
                have hfd := Fr.add (t := 126) (v := (elemP 2 vx ix)) hfd e4
                exact G_val (v := (addP (elemP 2 vx ix) 0)) (w' := wd) hfd rfl (by kernel_rfl) (X_fieldAddr_elem hc1 (H.le ld).m rfl rfl Try.underlying47 rfl rfl (by kernel_rfl)) (Le.refl _) rfl
              · intro aq wd ld hfd hdd
                have hfd := Fr.cast (s' := [(119, (.bool (decide (ix < (xs.length : Int))))), (19, (.int .i64 ix)), (18, (.int .i64 by_)), (109, (.bool false)), (17, (.int .i64 ((data.length : Int) + (target.size : Int)))), (16, (.bool (sameX xs xs))), (15, (.int .i64 0)), (14, v1), (13, (.int .i64 0)), (12, (ptr b3 0)), (61, (.bool (decide ((data.length : Int) > 4096)))), (43, (.bool false)), (11, (.int .i64 0)), (10, (.int .i64 2)), (9, (ptr b2 0)), (32, (.bool false)), (8, (ptr u1 0)), (7, (.bool true)), (6, (.bool false)), (3, (ptr b1 0)), (0, (.agg #[vn, (.int .i64 ino), (.int .i64 kind), (.int .i64 m), (.int .i64 u'), (.int .i64 gi'), vd, (.string target), vx, (.bool opq)])), (1, (.string s)), (2, (.int .i64 more))]) hfd (by kernel_rfl)
                obtain ⟨e5, _⟩ := hdd
                have hfd := Fr.add (t := 127) (v := (addP (elemP 2 vx ix) 0)) hfd e5
                exact G_val (v := (.string ((nth xs ix).v.1))) (w' := wd) hfd rfl (by kernel_rfl) (X_load rfl rfl (run_elem_field (off := 0) hc1 (H.le ld).m Try.underlying9 rfl rfl)) (Le.refl _) rfl
              · intro aq wd ld hfd hdd
                have hfd := Fr.cast (s' := [(119, (.bool (decide (ix < (xs.length : Int))))), (19, (.int .i64 ix)), (18, (.int .i64 by_)), (109, (.bool false)), (17, (.int .i64 ((data.length : Int) + (target.size : Int)))), (16, (.bool (sameX xs xs))), (15, (.int .i64 0)), (14, v1), (13, (.int .i64 0)), (12, (ptr b3 0)), (61, (.bool (decide ((data.length : Int) > 4096)))), (43, (.bool false)), (11, (.int .i64 0)), (10, (.int .i64 2)), (9, (ptr b2 0)), (32, (.bool false)), (8, (ptr u1 0)), (7, (.bool true)), (6, (.bool false)), (3, (ptr b1 0)), (0, (.agg #[vn, (.int .i64 ino), (.int .i64 kind), (.int .i64 m), (.int .i64 u'), (.int .i64 gi'), vd, (.string target), vx, (.bool opq)])), (1, (.string s)), (2, (.int .i64 more))]) hfd (by kernel_rfl)
                obtain ⟨e6, _⟩ := hdd
                have hfd := Fr.add (t := 128) (v := (.string ((nth xs ix).v.1))) hfd e6
                exact G_val (v := (.int .i64 (((nth xs ix).v.1).size : Int))) (w' := wd) hfd rfl (by kernel_rfl) (X_len_str rfl Try.underlying9 rfl) (Le.refl _) rfl
              · intro aq wd ld hfd hdd
                have hfd := Fr.cast (s' := [(119, (.bool (decide (ix < (xs.length : Int))))), (19, (.int .i64 ix)), (18, (.int .i64 by_)), (109, (.bool false)), (17, (.int .i64 ((data.length : Int) + (target.size : Int)))), (16, (.bool (sameX xs xs))), (15, (.int .i64 0)), (14, v1), (13, (.int .i64 0)), (12, (ptr b3 0)), (61, (.bool (decide ((data.length : Int) > 4096)))), (43, (.bool false)), (11, (.int .i64 0)), (10, (.int .i64 2)), (9, (ptr b2 0)), (32, (.bool false)), (8, (ptr u1 0)), (7, (.bool true)), (6, (.bool false)), (3, (ptr b1 0)), (0, (.agg #[vn, (.int .i64 ino), (.int .i64 kind), (.int .i64 m), (.int .i64 u'), (.int .i64 gi'), vd, (.string target), vx, (.bool opq)])), (1, (.string s)), (2, (.int .i64 more))]) hfd (by kernel_rfl)
                obtain ⟨e0, e7, _⟩ := hdd
                have hfd := Fr.add (t := 122) (v := (.int .i64 by_)) hfd e0
                have hfd := Fr.add (t := 129) (v := (.int .i64 (((nth xs ix).v.1).size : Int))) hfd e7
                exact G_val (v := (.int .i64 (by_ + (((nth xs ix).v.1).size : Int)))) (w' := wd) hfd rfl (by kernel_rfl) (eq_int (by kernel_rfl) (wrap64_in (by first | decide | omega | exact nm_size (by omega) (by omega) | (simp; omega)) (by first | decide | omega | exact nm_size (by omega) (by omega) | (simp; omega)))) (Le.refl _) rfl
              · intro aq wd ld hfd hdd
                have hfd := Fr.cast (s' := [(119, (.bool (decide (ix < (xs.length : Int))))), (19, (.int .i64 ix)), (18, (.int .i64 by_)), (109, (.bool false)), (17, (.int .i64 ((data.length : Int) + (target.size : Int)))), (16, (.bool (sameX xs xs))), (15, (.int .i64 0)), (14, v1), (13, (.int .i64 0)), (12, (ptr b3 0)), (61, (.bool (decide ((data.length : Int) > 4096)))), (43, (.bool false)), (11, (.int .i64 0)), (10, (.int .i64 2)), (9, (ptr b2 0)), (32, (.bool false)), (8, (ptr u1 0)), (7, (.bool true)), (6, (.bool false)), (3, (ptr b1 0)), (0, (.agg #[vn, (.int .i64 ino), (.int .i64 kind), (.int .i64 m), (.int .i64 u'), (.int .i64 gi'), vd, (.string target), vx, (.bool opq)])), (1, (.string s)), (2, (.int .i64 more))]) hfd (by kernel_rfl)
                exact G_val (v := (ptr b1 8)) (w' := wd) hfd rfl (by kernel_rfl) (by kernel_rfl) (Le.refl _) rfl
              · intro aq wd ld hfd hdd
                have hfd := Fr.cast (s' := [(119, (.bool (decide (ix < (xs.length : Int))))), (19, (.int .i64 ix)), (18, (.int .i64 by_)), (109, (.bool false)), (17, (.int .i64 ((data.length : Int) + (target.size : Int)))), (16, (.bool (sameX xs xs))), (15, (.int .i64 0)), (14, v1), (13, (.int .i64 0)), (12, (ptr b3 0)), (61, (.bool (decide ((data.length : Int) > 4096)))), (43, (.bool false)), (11, (.int .i64 0)), (10, (.int .i64 2)), (9, (ptr b2 0)), (32, (.bool false)), (8, (ptr u1 0)), (7, (.bool true)), (6, (.bool false)), (3, (ptr b1 0)), (0, (.agg #[vn, (.int .i64 ino), (.int .i64 kind), (.int .i64 m), (.int .i64 u'), (.int .i64 gi'), vd, (.string target), vx, (.bool opq)])), (1, (.string s)), (2, (.int .i64 more))]) hfd (by kernel_rfl)
                obtain ⟨e9, _⟩ := hdd
                have hfd := Fr.add (t := 131) (v := (ptr b1 8)) hfd e9
                exact G_val hfd rfl (by kernel_rfl) (load_ev (run_load_one ((H.le ld).blk 3) Try.underlying26 rfl rfl) rfl rfl) (Le.refl _) rfl
              · intro aq wd ld hfd hdd
                have hfd := Fr.cast (s' := [(119, (.bool (decide (ix < (xs.length : Int))))), (19, (.int .i64 ix)), (18, (.int .i64 by_)), (109, (.bool false)), (17, (.int .i64 ((data.length : Int) + (target.size : Int)))), (16, (.bool (sameX xs xs))), (15, (.int .i64 0)), (14, v1), (13, (.int .i64 0)), (12, (ptr b3 0)), (61, (.bool (decide ((data.length : Int) > 4096)))), (43, (.bool false)), (11, (.int .i64 0)), (10, (.int .i64 2)), (9, (ptr b2 0)), (32, (.bool false)), (8, (ptr u1 0)), (7, (.bool true)), (6, (.bool false)), (3, (ptr b1 0)), (0, (.agg #[vn, (.int .i64 ino), (.int .i64 kind), (.int .i64 m), (.int .i64 u'), (.int .i64 gi'), vd, (.string target), vx, (.bool opq)])), (1, (.string s)), (2, (.int .i64 more))]) hfd (by kernel_rfl)
                exact G_val (v := (.int .i64 ix)) (w' := wd) hfd rfl (by kernel_rfl) (by kernel_rfl) (Le.refl _) rfl
              · intro aq wd ld hfd hdd
                have hfd := Fr.cast (s' := [(119, (.bool (decide (ix < (xs.length : Int))))), (19, (.int .i64 ix)), (18, (.int .i64 by_)), (109, (.bool false)), (17, (.int .i64 ((data.length : Int) + (target.size : Int)))), (16, (.bool (sameX xs xs))), (15, (.int .i64 0)), (14, v1), (13, (.int .i64 0)), (12, (ptr b3 0)), (61, (.bool (decide ((data.length : Int) > 4096)))), (43, (.bool false)), (11, (.int .i64 0)), (10, (.int .i64 2)), (9, (ptr b2 0)), (32, (.bool false)), (8, (ptr u1 0)), (7, (.bool true)), (6, (.bool false)), (3, (ptr b1 0)), (0, (.agg #[vn, (.int .i64 ino), (.int .i64 kind), (.int .i64 m), (.int .i64 u'), (.int .i64 gi'), vd, (.string target), vx, (.bool opq)])), (1, (.string s)), (2, (.int .i64 more))]) hfd (by kernel_rfl)
                obtain ⟨e10, e11, _⟩ := hdd
                have hfd := Fr.add (t := 132) (v := vx) hfd e10
                have hfd := Fr.add (t := 133) (v := (.int .i64 ix)) hfd e11
                exact G_val (v := (elemP 2 vx ix)) (w' := wd) hfd rfl (by kernel_rfl) (X_indexAddr ((hx.mono (m1.trans m2)).mono (H.le ld).m) (by first | decide | omega | exact nm_size (by omega) (by omega) | (simp; omega)) (by first | decide | omega | exact nm_size (by omega) (by omega) | (simp; omega)) rfl Try.underlying26 (by kernel_rfl) rfl rfl) (Le.refl _) rfl
              · intro aq wd ld hfd hdd
                have hfd := Fr.cast (s' := [(119, (.bool (decide (ix < (xs.length : Int))))), (19, (.int .i64 ix)), (18, (.int .i64 by_)), (109, (.bool false)), (17, (.int .i64 ((data.length : Int) + (target.size : Int)))), (16, (.bool (sameX xs xs))), (15, (.int .i64 0)), (14, v1), (13, (.int .i64 0)), (12, (ptr b3 0)), (61, (.bool (decide ((data.length : Int) > 4096)))), (43, (.bool false)), (11, (.int .i64 0)), (10, (.int .i64 2)), (9, (ptr b2 0)), (32, (.bool false)), (8, (ptr u1 0)), (7, (.bool true)), (6, (.bool false)), (3, (ptr b1 0)), (0, (.agg #[vn, (.int .i64 ino), (.int .i64 kind), (.int .i64 m), (.int .i64 u'), (.int .i64 gi'), vd, (.string target), vx, (.bool opq)])), (1, (.string s)), (2, (.int .i64 more))]) hfd (by kernel_rfl)
                obtain ⟨e12, _⟩ := hdd
                have hfd := Fr.add (t := 134) (v := (elemP 2 vx ix)) hfd e12
                exact G_val (v := (addP (elemP 2 vx ix) 1)) (w' := wd) hfd rfl (by kernel_rfl) (X_fieldAddr_elem hc1 (H.le ld).m rfl rfl Try.underlying47 rfl rfl (by kernel_rfl)) (Le.refl _) rfl
              · intro aq wd ld hfd hdd
                have hfd := Fr.cast (s' := [(119, (.bool (decide (ix < (xs.length : Int))))), (19, (.int .i64 ix)), (18, (.int .i64 by_)), (109, (.bool false)), (17, (.int .i64 ((data.length : Int) + (target.size : Int)))), (16, (.bool (sameX xs xs))), (15, (.int .i64 0)), (14, v1), (13, (.int .i64 0)), (12, (ptr b3 0)), (61, (.bool (decide ((data.length : Int) > 4096)))), (43, (.bool false)), (11, (.int .i64 0)), (10, (.int .i64 2)), (9, (ptr b2 0)), (32, (.bool false)), (8, (ptr u1 0)), (7, (.bool true)), (6, (.bool false)), (3, (ptr b1 0)), (0, (.agg #[vn, (.int .i64 ino), (.int .i64 kind), (.int .i64 m), (.int .i64 u'), (.int .i64 gi'), vd, (.string target), vx, (.bool opq)])), (1, (.string s)), (2, (.int .i64 more))]) hfd (by kernel_rfl)
                obtain ⟨e13, _⟩ := hdd
                have hfd := Fr.add (t := 135) (v := (addP (elemP 2 vx ix) 1)) hfd e13
                exact G_val (v := vx1) (w' := wd) hfd rfl (by kernel_rfl) (X_load rfl rfl (run_elem_field (off := 1) hc1 (H.le ld).m Try.underlying25 rfl rfl)) (Le.refl _) rfl
              · intro aq wd ld hfd hdd
                have hfd := Fr.cast (s' := [(119, (.bool (decide (ix < (xs.length : Int))))), (19, (.int .i64 ix)), (18, (.int .i64 by_)), (109, (.bool false)), (17, (.int .i64 ((data.length : Int) + (target.size : Int)))), (16, (.bool (sameX xs xs))), (15, (.int .i64 0)), (14, v1), (13, (.int .i64 0)), (12, (ptr b3 0)), (61, (.bool (decide ((data.length : Int) > 4096)))), (43, (.bool false)), (11, (.int .i64 0)), (10, (.int .i64 2)), (9, (ptr b2 0)), (32, (.bool false)), (8, (ptr u1 0)), (7, (.bool true)), (6, (.bool false)), (3, (ptr b1 0)), (0, (.agg #[vn, (.int .i64 ino), (.int .i64 kind), (.int .i64 m), (.int .i64 u'), (.int .i64 gi'), vd, (.string target), vx, (.bool opq)])), (1, (.string s)), (2, (.int .i64 more))]) hfd (by kernel_rfl)
                obtain ⟨e14, _⟩ := hdd
                have hfd := Fr.add (t := 136) (v := vx1) hfd e14
                exact G_val (v := (.int .i64 (((nth xs ix).v.2.1).length : Int))) (w' := wd) hfd rfl (by kernel_rfl) (X_len (hx2.mono (H.le ld).m) rfl Try.underlying25 rfl) (Le.refl _) rfl
              intro aq1 w15 l7 hf1 fa1
              obtain ⟨_, _, _, _, _, _, _, _, qv1, _, _, _, _, _, _, qv2, _⟩ := fa1
              have hf1 := Fr.cast (s' := [(119, (.bool (decide (ix < (xs.length : Int))))), (19, (.int .i64 ix)), (18, (.int .i64 by_)), (109, (.bool false)), (17, (.int .i64 ((data.length : Int) + (target.size : Int)))), (16, (.bool (sameX xs xs))), (15, (.int .i64 0)), (14, v1), (13, (.int .i64 0)), (12, (ptr b3 0)), (61, (.bool (decide ((data.length : Int) > 4096)))), (43, (.bool false)), (11, (.int .i64 0)), (10, (.int .i64 2)), (9, (ptr b2 0)), (32, (.bool false)), (8, (ptr u1 0)), (7, (.bool true)), (6, (.bool false)), (3, (ptr b1 0)), (0, (.agg #[vn, (.int .i64 ino), (.int .i64 kind), (.int .i64 m), (.int .i64 u'), (.int .i64 gi'), vd, (.string target), vx, (.bool opq)])), (1, (.string s)), (2, (.int .i64 more))]) hf1 (by kernel_rfl)
              have hf1 := Fr.add (t := 130) (v := (.int .i64 (by_ + (((nth xs ix).v.1).size : Int)))) hf1 qv1
              have hf1 := Fr.add (t := 137) (v := (.int .i64 (((nth xs ix).v.2.1).length : Int))) hf1 qv2
              replace H := H.le l7
              refine (?_ : wpR _ _ _ _ [(137, (.int .i64 (((nth xs ix).v.2.1).length : Int))), (130, (.int .i64 (by_ + (((nth xs ix).v.1).size : Int)))), (119, (.bool (decide (ix < (xs.length : Int))))), (19, (.int .i64 ix)), (18, (.int .i64 by_)), (109, (.bool false)), (17, (.int .i64 ((data.length : Int) + (target.size : Int)))), (16, (.bool (sameX xs xs))), (15, (.int .i64 0)), (14, v1), (13, (.int .i64 0)), (12, (ptr b3 0)), (61, (.bool (decide ((data.length : Int) > 4096)))), (43, (.bool false)), (11, (.int .i64 0)), (10, (.int .i64 2)), (9, (ptr b2 0)), (32, (.bool false)), (8, (ptr u1 0)), (7, (.bool true)), (6, (.bool false)), (3, (ptr b1 0)), (0, (.agg #[vn, (.int .i64 ino), (.int .i64 kind), (.int .i64 m), (.int .i64 u'), (.int .i64 gi'), vd, (.string target), vx, (.bool opq)])), (1, (.string s)), (2, (.int .i64 more))] _ _) aq1 (hf1.sub ⟨rfl, rfl, rfl, rfl, rfl, rfl, rfl, rfl, rfl, rfl, rfl, rfl, rfl, rfl, rfl, rfl, rfl, rfl, rfl, rfl, rfl, rfl, rfl, rfl, rfl, trivial⟩)
              refine Rw (.int .i64 ((by_ + (((nth xs ix).v.1).size : Int)) + (((nth xs ix).v.2.1).length : Int))) w15 (eq_int (by kernel_rfl) (wrap64_in (by first | decide | omega | exact nm_size (by omega) (by omega) | (simp; omega)) (by first | decide | omega | exact nm_size (by omega) (by omega) | (simp; omega)))) ?_
              refine Rv (.int .i64 ((by_ + (((nth xs ix).v.1).size : Int)) + (((nth xs ix).v.2.1).length : Int))) w15 ?_
              refine wpR_nil ?_
              refine E_block_normal ?_
              refine E_then_normal ?_
              refine Cs [(18, (.int .i64 ((by_ + (((nth xs ix).v.1).size : Int)) + (((nth xs ix).v.2.1).length : Int)))), (119, (.bool (decide (ix < (xs.length : Int))))), (19, (.int .i64 ix)), (109, (.bool false)), (17, (.int .i64 ((data.length : Int) + (target.size : Int)))), (16, (.bool (sameX xs xs))), (15, (.int .i64 0)), (14, v1), (13, (.int .i64 0)), (12, (ptr b3 0)), (61, (.bool (decide ((data.length : Int) > 4096)))), (43, (.bool false)), (11, (.int .i64 0)), (10, (.int .i64 2)), (9, (ptr b2 0)), (32, (.bool false)), (8, (ptr u1 0)), (7, (.bool true)), (6, (.bool false)), (3, (ptr b1 0)), (0, (.agg #[vn, (.int .i64 ino), (.int .i64 kind), (.int .i64 m), (.int .i64 u'), (.int .i64 gi'), vd, (.string target), vx, (.bool opq)])), (1, (.string s)), (2, (.int .i64 more))] ?_
              refine C_region ?_
              refine Rv (.int .i64 ix) w15 ?_
              refine Rw (.int .i64 (ix + 1)) w15 (eq_int (by kernel_rfl) (wrap64_in (by first | decide | omega | exact nm_size (by omega) (by omega) | (simp; omega)) (by first | decide | omega | exact nm_size (by omega) (by omega) | (simp; omega)))) ?_
              refine Rv (.int .i64 (ix + 1)) w15 ?_
              refine wpR_nil ?_
              replace H := H.pick 3
              replace H := H.pick 3
              replace H := H.pick 3
              replace H := H.pick 3
              refine E_then_mid fun aq2 ha1 => ⟨(ix + 1, (by_ + (((nth xs ix).v.1).size : Int)) + (((nth xs ix).v.2.1).length : Int)), ha1.sub ⟨rfl, rfl, rfl, rfl, rfl, rfl, rfl, rfl, rfl, rfl, rfl, rfl, rfl, rfl, rfl, rfl, rfl, rfl, rfl, rfl, rfl, rfl, trivial⟩, ⟨by omega, by omega, by omega, by omega, H⟩, ?_⟩
              (first | omega | (dsimp only; omega))
            · have d5 : ¬ ix < (xs.length : Int) := of_decide_eq_false c5
              refine C_exit ?_
              refine E_then_exit ?_
              refine E_then_exit ?_
              refine E_block_here ?_
              refine E_then_normal ?_
              refine C_seq ?_
              refine C_seq ?_
              refine Cs [(119, (.bool (decide (ix < (xs.length : Int))))), (19, (.int .i64 ix)), (18, (.int .i64 by_)), (109, (.bool false)), (17, (.int .i64 ((data.length : Int) + (target.size : Int)))), (16, (.bool (sameX xs xs))), (15, (.int .i64 0)), (14, v1), (13, (.int .i64 0)), (12, (ptr b3 0)), (61, (.bool (decide ((data.length : Int) > 4096)))), (43, (.bool false)), (11, (.int .i64 0)), (10, (.int .i64 2)), (9, (ptr b2 0)), (32, (.bool false)), (8, (ptr u1 0)), (7, (.bool true)), (6, (.bool false)), (3, (ptr b1 0)), (0, (.agg #[vn, (.int .i64 ino), (.int .i64 kind), (.int .i64 m), (.int .i64 u'), (.int .i64 gi'), vd, (.string target), vx, (.bool opq)])), (1, (.string s)), (2, (.int .i64 more))] ?_
              have hxe := sumX_end (l := xs) (k := ix) (by omega)
              refine C_drawT 10 [fun _ v => v = (ptr u1 0), fun _ v => v = (.agg #[(.int .i64 2), (.int .i64 (128 + (data.length : Int) + (target.size : Int) + sumX xs + (s.size : Int)))]), fun _ v => v = (ptr b2 0), fun _ v => v = (.int .i64 1), fun _ v => v = (.int .i64 2), fun _ v => v = (ptr b2 1), fun _ v => v = (.int .i64 64), fun _ v => v = (.int .i64 by_), fun _ v => v = (.int .i64 (64 + by_)), fun _ v => v = (.agg #[(.int .i64 2), (.int .i64 (64 + by_))])] (by kernel_rfl) (by kernel_rfl) (by kernel_rfl) (by kernel_rfl) ⟨stab_exact _, stab_exact _, stab_exact _, stab_exact _, stab_exact _, stab_exact _, stab_exact _, stab_exact _, stab_exact _, stab_exact _, trivial⟩ ⟨?_, ?_, ?_, ?_, ?_, ?_, ?_, ?_, ?_, ?_, trivial⟩ ?_
              · intro aq wd ld hfd hdd
                have hfd := Fr.cast (s' := [(119, (.bool (decide (ix < (xs.length : Int))))), (19, (.int .i64 ix)), (18, (.int .i64 by_)), (109, (.bool false)), (17, (.int .i64 ((data.length : Int) + (target.size : Int)))), (16, (.bool (sameX xs xs))), (15, (.int .i64 0)), (14, v1), (13, (.int .i64 0)), (12, (ptr b3 0)), (61, (.bool (decide ((data.length : Int) > 4096)))), (43, (.bool false)), (11, (.int .i64 0)), (10, (.int .i64 2)), (9, (ptr b2 0)), (32, (.bool false)), (8, (ptr u1 0)), (7, (.bool true)), (6, (.bool false)), (3, (ptr b1 0)), (0, (.agg #[vn, (.int .i64 ino), (.int .i64 kind), (.int .i64 m), (.int .i64 u'), (.int .i64 gi'), vd, (.string target), vx, (.bool opq)])), (1, (.string s)), (2, (.int .i64 more))]) hfd (by kernel_rfl)
                exact G_val (v := (ptr u1 0)) (w' := wd) hfd rfl (by kernel_rfl) (by kernel_rfl) (Le.refl _) rfl
              · intro aq wd ld hfd hdd
                have hfd := Fr.cast (s' := [(119, (.bool (decide (ix < (xs.length : Int))))), (19, (.int .i64 ix)), (18, (.int .i64 by_)), (109, (.bool false)), (17, (.int .i64 ((data.length : Int) + (target.size : Int)))), (16, (.bool (sameX xs xs))), (15, (.int .i64 0)), (14, v1), (13, (.int .i64 0)), (12, (ptr b3 0)), (61, (.bool (decide ((data.length : Int) > 4096)))), (43, (.bool false)), (11, (.int .i64 0)), (10, (.int .i64 2)), (9, (ptr b2 0)), (32, (.bool false)), (8, (ptr u1 0)), (7, (.bool true)), (6, (.bool false)), (3, (ptr b1 0)), (0, (.agg #[vn, (.int .i64 ino), (.int .i64 kind), (.int .i64 m), (.int .i64 u'), (.int .i64 gi'), vd, (.string target), vx, (.bool opq)])), (1, (.string s)), (2, (.int .i64 more))]) hfd (by kernel_rfl)
                obtain ⟨e0, _⟩ := hdd
                have hfd := Fr.add (t := 139) (v := (ptr u1 0)) hfd e0
                exact G_call (args := #[(ptr u1 0)]) (w := wd) hfd rfl (by kernel_rfl) (by kernel_rfl) (used_S u1 100 100000 3 ([(2, newU ⟨kind, m, u', gi', data, target, xs⟩ 1), (1, rootU [(s, 2)])]) _ _ _ _ ((H.le ld).pick 1) 2 (128 + (data.length : Int) + (target.size : Int) + sumX xs + (s.size : Int)) rfl (usedL ⟨kind, m, u', gi', data, target, xs⟩ s) (by omega)) fun v w' ⟨he, hl⟩ => ⟨hl, he⟩
              · intro aq wd ld hfd hdd
                have hfd := Fr.cast (s' := [(119, (.bool (decide (ix < (xs.length : Int))))), (19, (.int .i64 ix)), (18, (.int .i64 by_)), (109, (.bool false)), (17, (.int .i64 ((data.length : Int) + (target.size : Int)))), (16, (.bool (sameX xs xs))), (15, (.int .i64 0)), (14, v1), (13, (.int .i64 0)), (12, (ptr b3 0)), (61, (.bool (decide ((data.length : Int) > 4096)))), (43, (.bool false)), (11, (.int .i64 0)), (10, (.int .i64 2)), (9, (ptr b2 0)), (32, (.bool false)), (8, (ptr u1 0)), (7, (.bool true)), (6, (.bool false)), (3, (ptr b1 0)), (0, (.agg #[vn, (.int .i64 ino), (.int .i64 kind), (.int .i64 m), (.int .i64 u'), (.int .i64 gi'), vd, (.string target), vx, (.bool opq)])), (1, (.string s)), (2, (.int .i64 more))]) hfd (by kernel_rfl)
                exact G_val (v := (ptr b2 0)) (w' := wd) hfd rfl (by kernel_rfl) (by kernel_rfl) (Le.refl _) rfl
              · intro aq wd ld hfd hdd
                have hfd := Fr.cast (s' := [(119, (.bool (decide (ix < (xs.length : Int))))), (19, (.int .i64 ix)), (18, (.int .i64 by_)), (109, (.bool false)), (17, (.int .i64 ((data.length : Int) + (target.size : Int)))), (16, (.bool (sameX xs xs))), (15, (.int .i64 0)), (14, v1), (13, (.int .i64 0)), (12, (ptr b3 0)), (61, (.bool (decide ((data.length : Int) > 4096)))), (43, (.bool false)), (11, (.int .i64 0)), (10, (.int .i64 2)), (9, (ptr b2 0)), (32, (.bool false)), (8, (ptr u1 0)), (7, (.bool true)), (6, (.bool false)), (3, (ptr b1 0)), (0, (.agg #[vn, (.int .i64 ino), (.int .i64 kind), (.int .i64 m), (.int .i64 u'), (.int .i64 gi'), vd, (.string target), vx, (.bool opq)])), (1, (.string s)), (2, (.int .i64 more))]) hfd (by kernel_rfl)
                obtain ⟨e2, _⟩ := hdd
                have hfd := Fr.add (t := 141) (v := (ptr b2 0)) hfd e2
                exact G_val hfd rfl (by kernel_rfl) (load_ev (run_load_one ((H.le ld).blk 2) Try.underlying3 rfl rfl) rfl rfl) (Le.refl _) rfl
              · intro aq wd ld hfd hdd
                have hfd := Fr.cast (s' := [(119, (.bool (decide (ix < (xs.length : Int))))), (19, (.int .i64 ix)), (18, (.int .i64 by_)), (109, (.bool false)), (17, (.int .i64 ((data.length : Int) + (target.size : Int)))), (16, (.bool (sameX xs xs))), (15, (.int .i64 0)), (14, v1), (13, (.int .i64 0)), (12, (ptr b3 0)), (61, (.bool (decide ((data.length : Int) > 4096)))), (43, (.bool false)), (11, (.int .i64 0)), (10, (.int .i64 2)), (9, (ptr b2 0)), (32, (.bool false)), (8, (ptr u1 0)), (7, (.bool true)), (6, (.bool false)), (3, (ptr b1 0)), (0, (.agg #[vn, (.int .i64 ino), (.int .i64 kind), (.int .i64 m), (.int .i64 u'), (.int .i64 gi'), vd, (.string target), vx, (.bool opq)])), (1, (.string s)), (2, (.int .i64 more))]) hfd (by kernel_rfl)
                obtain ⟨e3, _⟩ := hdd
                have hfd := Fr.add (t := 142) (v := (.int .i64 1)) hfd e3
                exact G_val (v := (.int .i64 2)) (w' := wd) hfd rfl (by kernel_rfl) (by kernel_rfl) (Le.refl _) rfl
              · intro aq wd ld hfd hdd
                have hfd := Fr.cast (s' := [(119, (.bool (decide (ix < (xs.length : Int))))), (19, (.int .i64 ix)), (18, (.int .i64 by_)), (109, (.bool false)), (17, (.int .i64 ((data.length : Int) + (target.size : Int)))), (16, (.bool (sameX xs xs))), (15, (.int .i64 0)), (14, v1), (13, (.int .i64 0)), (12, (ptr b3 0)), (61, (.bool (decide ((data.length : Int) > 4096)))), (43, (.bool false)), (11, (.int .i64 0)), (10, (.int .i64 2)), (9, (ptr b2 0)), (32, (.bool false)), (8, (ptr u1 0)), (7, (.bool true)), (6, (.bool false)), (3, (ptr b1 0)), (0, (.agg #[vn, (.int .i64 ino), (.int .i64 kind), (.int .i64 m), (.int .i64 u'), (.int .i64 gi'), vd, (.string target), vx, (.bool opq)])), (1, (.string s)), (2, (.int .i64 more))]) hfd (by kernel_rfl)
                exact G_val (v := (ptr b2 1)) (w' := wd) hfd rfl (by kernel_rfl) (by kernel_rfl) (Le.refl _) rfl
              · intro aq wd ld hfd hdd
                have hfd := Fr.cast (s' := [(119, (.bool (decide (ix < (xs.length : Int))))), (19, (.int .i64 ix)), (18, (.int .i64 by_)), (109, (.bool false)), (17, (.int .i64 ((data.length : Int) + (target.size : Int)))), (16, (.bool (sameX xs xs))), (15, (.int .i64 0)), (14, v1), (13, (.int .i64 0)), (12, (ptr b3 0)), (61, (.bool (decide ((data.length : Int) > 4096)))), (43, (.bool false)), (11, (.int .i64 0)), (10, (.int .i64 2)), (9, (ptr b2 0)), (32, (.bool false)), (8, (ptr u1 0)), (7, (.bool true)), (6, (.bool false)), (3, (ptr b1 0)), (0, (.agg #[vn, (.int .i64 ino), (.int .i64 kind), (.int .i64 m), (.int .i64 u'), (.int .i64 gi'), vd, (.string target), vx, (.bool opq)])), (1, (.string s)), (2, (.int .i64 more))]) hfd (by kernel_rfl)
                obtain ⟨e5, _⟩ := hdd
                have hfd := Fr.add (t := 144) (v := (ptr b2 1)) hfd e5
                exact G_val hfd rfl (by kernel_rfl) (load_ev (run_load_one ((H.le ld).blk 2) Try.underlying3 rfl rfl) rfl rfl) (Le.refl _) rfl
              · intro aq wd ld hfd hdd
                have hfd := Fr.cast (s' := [(119, (.bool (decide (ix < (xs.length : Int))))), (19, (.int .i64 ix)), (18, (.int .i64 by_)), (109, (.bool false)), (17, (.int .i64 ((data.length : Int) + (target.size : Int)))), (16, (.bool (sameX xs xs))), (15, (.int .i64 0)), (14, v1), (13, (.int .i64 0)), (12, (ptr b3 0)), (61, (.bool (decide ((data.length : Int) > 4096)))), (43, (.bool false)), (11, (.int .i64 0)), (10, (.int .i64 2)), (9, (ptr b2 0)), (32, (.bool false)), (8, (ptr u1 0)), (7, (.bool true)), (6, (.bool false)), (3, (ptr b1 0)), (0, (.agg #[vn, (.int .i64 ino), (.int .i64 kind), (.int .i64 m), (.int .i64 u'), (.int .i64 gi'), vd, (.string target), vx, (.bool opq)])), (1, (.string s)), (2, (.int .i64 more))]) hfd (by kernel_rfl)
                exact G_val (v := (.int .i64 by_)) (w' := wd) hfd rfl (by kernel_rfl) (by kernel_rfl) (Le.refl _) rfl
              · intro aq wd ld hfd hdd
                have hfd := Fr.cast (s' := [(119, (.bool (decide (ix < (xs.length : Int))))), (19, (.int .i64 ix)), (18, (.int .i64 by_)), (109, (.bool false)), (17, (.int .i64 ((data.length : Int) + (target.size : Int)))), (16, (.bool (sameX xs xs))), (15, (.int .i64 0)), (14, v1), (13, (.int .i64 0)), (12, (ptr b3 0)), (61, (.bool (decide ((data.length : Int) > 4096)))), (43, (.bool false)), (11, (.int .i64 0)), (10, (.int .i64 2)), (9, (ptr b2 0)), (32, (.bool false)), (8, (ptr u1 0)), (7, (.bool true)), (6, (.bool false)), (3, (ptr b1 0)), (0, (.agg #[vn, (.int .i64 ino), (.int .i64 kind), (.int .i64 m), (.int .i64 u'), (.int .i64 gi'), vd, (.string target), vx, (.bool opq)])), (1, (.string s)), (2, (.int .i64 more))]) hfd (by kernel_rfl)
                obtain ⟨e6, e7, _⟩ := hdd
                have hfd := Fr.add (t := 145) (v := (.int .i64 64)) hfd e6
                have hfd := Fr.add (t := 146) (v := (.int .i64 by_)) hfd e7
                exact G_val (v := (.int .i64 (64 + by_))) (w' := wd) hfd rfl (by kernel_rfl) (eq_int (by kernel_rfl) (wrap64_in (by first | decide | omega | exact nm_size (by omega) (by omega) | (simp; omega)) (by first | decide | omega | exact nm_size (by omega) (by omega) | (simp; omega)))) (Le.refl _) rfl
              · intro aq wd ld hfd hdd
                have hfd := Fr.cast (s' := [(119, (.bool (decide (ix < (xs.length : Int))))), (19, (.int .i64 ix)), (18, (.int .i64 by_)), (109, (.bool false)), (17, (.int .i64 ((data.length : Int) + (target.size : Int)))), (16, (.bool (sameX xs xs))), (15, (.int .i64 0)), (14, v1), (13, (.int .i64 0)), (12, (ptr b3 0)), (61, (.bool (decide ((data.length : Int) > 4096)))), (43, (.bool false)), (11, (.int .i64 0)), (10, (.int .i64 2)), (9, (ptr b2 0)), (32, (.bool false)), (8, (ptr u1 0)), (7, (.bool true)), (6, (.bool false)), (3, (ptr b1 0)), (0, (.agg #[vn, (.int .i64 ino), (.int .i64 kind), (.int .i64 m), (.int .i64 u'), (.int .i64 gi'), vd, (.string target), vx, (.bool opq)])), (1, (.string s)), (2, (.int .i64 more))]) hfd (by kernel_rfl)
                obtain ⟨e4, e8, _⟩ := hdd
                have hfd := Fr.add (t := 143) (v := (.int .i64 2)) hfd e4
                have hfd := Fr.add (t := 147) (v := (.int .i64 (64 + by_))) hfd e8
                exact G_val (v := (.agg #[(.int .i64 2), (.int .i64 (64 + by_))])) (w' := wd) hfd rfl (by kernel_rfl) (by kernel_rfl) (Le.refl _) rfl
              intro aq3 w16 l8 hf2 fa2
              obtain ⟨_, qv3, _, _, _, _, _, _, _, qv4, _⟩ := fa2
              have hf2 := Fr.cast (s' := [(119, (.bool (decide (ix < (xs.length : Int))))), (19, (.int .i64 ix)), (18, (.int .i64 by_)), (109, (.bool false)), (17, (.int .i64 ((data.length : Int) + (target.size : Int)))), (16, (.bool (sameX xs xs))), (15, (.int .i64 0)), (14, v1), (13, (.int .i64 0)), (12, (ptr b3 0)), (61, (.bool (decide ((data.length : Int) > 4096)))), (43, (.bool false)), (11, (.int .i64 0)), (10, (.int .i64 2)), (9, (ptr b2 0)), (32, (.bool false)), (8, (ptr u1 0)), (7, (.bool true)), (6, (.bool false)), (3, (ptr b1 0)), (0, (.agg #[vn, (.int .i64 ino), (.int .i64 kind), (.int .i64 m), (.int .i64 u'), (.int .i64 gi'), vd, (.string target), vx, (.bool opq)])), (1, (.string s)), (2, (.int .i64 more))]) hf2 (by kernel_rfl)
              have hf2 := Fr.add (t := 140) (v := (.agg #[(.int .i64 2), (.int .i64 (128 + (data.length : Int) + (target.size : Int) + sumX xs + (s.size : Int)))])) hf2 qv3
              have hf2 := Fr.add (t := 148) (v := (.agg #[(.int .i64 2), (.int .i64 (64 + by_))])) hf2 qv4
              replace H := H.le l8
              refine (?_ : wpR _ _ _ _ [(148, (.agg #[(.int .i64 2), (.int .i64 (64 + by_))])), (140, (.agg #[(.int .i64 2), (.int .i64 (128 + (data.length : Int) + (target.size : Int) + sumX xs + (s.size : Int)))])), (119, (.bool (decide (ix < (xs.length : Int))))), (19, (.int .i64 ix)), (18, (.int .i64 by_)), (109, (.bool false)), (17, (.int .i64 ((data.length : Int) + (target.size : Int)))), (16, (.bool (sameX xs xs))), (15, (.int .i64 0)), (14, v1), (13, (.int .i64 0)), (12, (ptr b3 0)), (61, (.bool (decide ((data.length : Int) > 4096)))), (43, (.bool false)), (11, (.int .i64 0)), (10, (.int .i64 2)), (9, (ptr b2 0)), (32, (.bool false)), (8, (ptr u1 0)), (7, (.bool true)), (6, (.bool false)), (3, (ptr b1 0)), (0, (.agg #[vn, (.int .i64 ino), (.int .i64 kind), (.int .i64 m), (.int .i64 u'), (.int .i64 gi'), vd, (.string target), vx, (.bool opq)])), (1, (.string s)), (2, (.int .i64 more))] _ _) aq3 (hf2.sub ⟨rfl, rfl, rfl, rfl, rfl, rfl, rfl, rfl, rfl, rfl, rfl, rfl, rfl, rfl, rfl, rfl, rfl, rfl, rfl, rfl, rfl, rfl, rfl, rfl, rfl, trivial⟩)
              refine Rw (.bool (!((2 == 2) && (((128 + (data.length : Int) + (target.size : Int) + sumX xs + (s.size : Int)) == (64 + by_)) && true)))) w16 (X_neq_struct rfl rfl rfl Try.underlying33 (by kernel_rfl) (by kernel_rfl) (eqF_int rfl Try.underlying3 (by kernel_rfl) rfl rfl (eqF_int rfl Try.underlying3 (by kernel_rfl) rfl rfl (eqF_nil)))) ?_
              refine wpR_nil ?_
              refine E_then_normal ?_
              refine C_cond rfl (fun c6 => ?_) (fun c6 => ?_)
              · refine C_seq ?_
                refine Cs [(149, (.bool (!((2 == 2) && (((128 + (data.length : Int) + (target.size : Int) + sumX xs + (s.size : Int)) == (64 + by_)) && true))))), (119, (.bool (decide (ix < (xs.length : Int))))), (19, (.int .i64 ix)), (18, (.int .i64 by_)), (109, (.bool false)), (17, (.int .i64 ((data.length : Int) + (target.size : Int)))), (16, (.bool (sameX xs xs))), (15, (.int .i64 0)), (14, v1), (13, (.int .i64 0)), (12, (ptr b3 0)), (61, (.bool (decide ((data.length : Int) > 4096)))), (43, (.bool false)), (11, (.int .i64 0)), (10, (.int .i64 2)), (9, (ptr b2 0)), (32, (.bool false)), (8, (ptr u1 0)), (7, (.bool true)), (6, (.bool false)), (3, (ptr b1 0)), (0, (.agg #[vn, (.int .i64 ino), (.int .i64 kind), (.int .i64 m), (.int .i64 u'), (.int .i64 gi'), vd, (.string target), vx, (.bool opq)])), (1, (.string s)), (2, (.int .i64 more))] ?_
                refine C_region ?_
                refine Rv (.bool false) w16 ?_
                refine wpR_nil ?_
                refine E_then_normal ?_
                refine C_ret ?_
                refine E_then_ret ?_
                refine E_ret (res_one rfl rfl) ⟨_, rfl, ?_⟩
                exfalso; first | omega | (simp_all; done) | (simp_all; omega) | (revert c6; simp [sameX_refl]; done) | (revert c6; simp [sameX_refl]; omega)
              · refine C_skip ?_
                refine E_then_normal ?_
                refine C_seq ?_
                refine Cs [(149, (.bool (!((2 == 2) && (((128 + (data.length : Int) + (target.size : Int) + sumX xs + (s.size : Int)) == (64 + by_)) && true))))), (119, (.bool (decide (ix < (xs.length : Int))))), (19, (.int .i64 ix)), (18, (.int .i64 by_)), (109, (.bool false)), (17, (.int .i64 ((data.length : Int) + (target.size : Int)))), (16, (.bool (sameX xs xs))), (15, (.int .i64 0)), (14, v1), (13, (.int .i64 0)), (12, (ptr b3 0)), (61, (.bool (decide ((data.length : Int) > 4096)))), (43, (.bool false)), (11, (.int .i64 0)), (10, (.int .i64 2)), (9, (ptr b2 0)), (32, (.bool false)), (8, (ptr u1 0)), (7, (.bool true)), (6, (.bool false)), (3, (ptr b1 0)), (0, (.agg #[vn, (.int .i64 ino), (.int .i64 kind), (.int .i64 m), (.int .i64 u'), (.int .i64 gi'), vd, (.string target), vx, (.bool opq)])), (1, (.string s)), (2, (.int .i64 more))] ?_
                refine C_region ?_
                refine S_new (fun b => .slice (some ⟨b, 0, none⟩) 5 5) (.cells #[(.string (⟨#[49]⟩ : ByteArray)), (.string (⟨#[50]⟩ : ByteArray)), (.string (⟨#[51]⟩ : ByteArray)), (.string (⟨#[52]⟩ : ByteArray)), (.string (⟨#[53]⟩ : ByteArray))] 9) (by kernel_rfl) (by kernel_rfl) rfl rfl rfl fun b4 w17 n4 => ?_
                replace H := H.new n4
                replace H := SL.litSl (α := ByteArray) (ds := [[(.string (⟨#[49]⟩ : ByteArray))], [(.string (⟨#[50]⟩ : ByteArray))], [(.string (⟨#[51]⟩ : ByteArray))], [(.string (⟨#[52]⟩ : ByteArray))], [(.string (⟨#[53]⟩ : ByteArray))]]) (xs := NM) H ⟨⟨rfl, by decide⟩, ⟨rfl, by decide⟩, ⟨rfl, by decide⟩, ⟨rfl, by decide⟩, ⟨rfl, by decide⟩, trivial⟩ rfl rfl (by decide)
                obtain ⟨g3, m3, H, hx3⟩ := H.slHold 0
                have hnm : NM.length = 5 := rfl
                refine Rv (.slice (some ⟨b4, 0, none⟩) 5 5) w17 ?_
                refine wpR_nil ?_
                refine E_then_normal ?_
                refine C_seq ?_
                refine Cs [(20, (.slice (some ⟨b4, 0, none⟩) 5 5)), (149, (.bool (!((2 == 2) && (((128 + (data.length : Int) + (target.size : Int) + sumX xs + (s.size : Int)) == (64 + by_)) && true))))), (119, (.bool (decide (ix < (xs.length : Int))))), (19, (.int .i64 ix)), (18, (.int .i64 by_)), (109, (.bool false)), (17, (.int .i64 ((data.length : Int) + (target.size : Int)))), (16, (.bool (sameX xs xs))), (15, (.int .i64 0)), (14, v1), (13, (.int .i64 0)), (12, (ptr b3 0)), (61, (.bool (decide ((data.length : Int) > 4096)))), (43, (.bool false)), (11, (.int .i64 0)), (10, (.int .i64 2)), (9, (ptr b2 0)), (32, (.bool false)), (8, (ptr u1 0)), (7, (.bool true)), (6, (.bool false)), (3, (ptr b1 0)), (0, (.agg #[vn, (.int .i64 ino), (.int .i64 kind), (.int .i64 m), (.int .i64 u'), (.int .i64 gi'), vd, (.string target), vx, (.bool opq)])), (1, (.string s)), (2, (.int .i64 more))] ?_
                refine C_region ?_
                refine Rv (.int .i64 0) w17 ?_
                refine wpR_nil ?_
                refine E_then_normal ?_
                refine C_seq ?_
                refine C_seq ?_
                refine C_region ?_
                refine Rv (.int .i64 0) w17 ?_
                refine wpR_nil ?_
                refine E_then_normal ?_
                refine C_block ?_
                refine C_loop (ι := Int × Int × List (ByteArray × Int)) (fun (i : Int × Int × List (ByteArray × Int)) => match i with | (k2, lk, E) => [(22, (.int .i64 k2)), (21, (.int .i64 lk)), (20, (.slice (some ⟨b4, 0, none⟩) 5 5)), (149, (.bool (!((2 == 2) && (((128 + (data.length : Int) + (target.size : Int) + sumX xs + (s.size : Int)) == (64 + by_)) && true))))), (119, (.bool (decide (ix < (xs.length : Int))))), (19, (.int .i64 ix)), (18, (.int .i64 by_)), (109, (.bool false)), (17, (.int .i64 ((data.length : Int) + (target.size : Int)))), (16, (.bool (sameX xs xs))), (15, (.int .i64 0)), (14, v1), (13, (.int .i64 0)), (12, (ptr b3 0)), (61, (.bool (decide ((data.length : Int) > 4096)))), (43, (.bool false)), (11, (.int .i64 0)), (10, (.int .i64 2)), (9, (ptr b2 0)), (32, (.bool false)), (8, (ptr u1 0)), (7, (.bool true)), (3, (ptr b1 0)), (0, (.agg #[vn, (.int .i64 ino), (.int .i64 kind), (.int .i64 m), (.int .i64 u'), (.int .i64 gi'), vd, (.string target), vx, (.bool opq)])), (1, (.string s)), (2, (.int .i64 more))]) (fun (i : Int × Int × List (ByteArray × Int)) w' => match i with | (k2, lk, E) => ∃ gl2 : World, 0 ≤ k2 ∧ k2 ≤ 5 ∧ 0 ≤ lk ∧ lk ≤ k2 ∧ (E.length : Int) = 1 + lk ∧ In2 s k2 E ∧ Mono g3 gl2 ∧ SL ⟨w, g⟩ gl2 w' [blk b3 #[(.int .i64 kind), (.int .i64 m), (.int .i64 u'), (.int .i64 gi'), (.int .i64 1), (.int .i64 ((data.length : Int) + (target.size : Int) + ((0 : Nat) : Int)))] 39, upS Try.prog uty u1 100 100000 3 (stL ⟨kind, m, u', gi', data, target, xs⟩ E), blk b2 #[(.int .i64 1), (.int .i64 64)] 33, blk b1 #[vn, (.int .i64 ino), (.int .i64 kind), (.int .i64 m), (.int .i64 u'), (.int .i64 gi'), vd, (.string target), vx, (.bool opq)] 28]) (fun (i : Int × Int × List (ByteArray × Int)) => match i with | (k2, lk, E) => (5 - k2).toNat) (0, 0, [(s, 2)]) ⟨rfl, rfl, rfl, rfl, rfl, rfl, rfl, rfl, rfl, rfl, rfl, rfl, rfl, rfl, rfl, rfl, rfl, rfl, rfl, rfl, rfl, rfl, rfl, rfl, rfl, rfl, trivial⟩ ⟨g3, by omega, by omega, by omega, by omega, by rfl, In2.start s, Mono.refl _, H⟩ ?_
                clear H
                rintro ⟨k2, lk, E⟩ w18 ⟨gl2, hi0, hi5, hl0, hl5, hEl, hE2, m4, H⟩
                refine Cs [(22, (.int .i64 k2)), (21, (.int .i64 lk)), (20, (.slice (some ⟨b4, 0, none⟩) 5 5)), (149, (.bool (!((2 == 2) && (((128 + (data.length : Int) + (target.size : Int) + sumX xs + (s.size : Int)) == (64 + by_)) && true))))), (119, (.bool (decide (ix < (xs.length : Int))))), (19, (.int .i64 ix)), (18, (.int .i64 by_)), (109, (.bool false)), (17, (.int .i64 ((data.length : Int) + (target.size : Int)))), (16, (.bool (sameX xs xs))), (15, (.int .i64 0)), (14, v1), (13, (.int .i64 0)), (12, (ptr b3 0)), (61, (.bool (decide ((data.length : Int) > 4096)))), (43, (.bool false)), (11, (.int .i64 0)), (10, (.int .i64 2)), (9, (ptr b2 0)), (32, (.bool false)), (8, (ptr u1 0)), (7, (.bool true)), (3, (ptr b1 0)), (0, (.agg #[vn, (.int .i64 ino), (.int .i64 kind), (.int .i64 m), (.int .i64 u'), (.int .i64 gi'), vd, (.string target), vx, (.bool opq)])), (1, (.string s)), (2, (.int .i64 more))] ?_
                refine C_seq ?_
                refine C_seq ?_
                refine C_region ?_
                refine Rv (.int .i64 k2) w18 ?_
                refine Rv (.int .i64 more) w18 ?_
                refine Rc #[(.int .i64 more), (.int .i64 6)] w18 (kind_any more 6 (by first | decide | omega | exact nm_size (by omega) (by omega) | (simp; omega)) (by first | decide | omega | exact nm_size (by omega) (by omega) | (simp; omega)) (by first | decide | omega | exact nm_size (by omega) (by omega) | (simp; omega)) (by first | decide | omega | exact nm_size (by omega) (by omega) | (simp; omega)) _) ?_
                rintro _ w19 ⟨rfl, l9⟩
                replace H := H.le l9
                obtain ⟨hkr1, hkr1'⟩ := kindI_range (c := more) (n := 6) (by omega) (by omega) (by omega)
                refine Rv (.bool (decide (k2 < (kindI more 6)))) w19 ?_
                rcases Bool.eq_false_or_eq_true (decide (k2 < (kindI more 6))) with c7 | c7
                · have d7 : k2 < (kindI more 6) := of_decide_eq_true c7
                  refine Rw (.bool true) w19 (eq_bool (by kernel_rfl) c7) ?_
                  refine Rv (.int .i64 k2) w19 ?_
                  refine Rv (.bool (decide (k2 < 5))) w19 ?_
                  refine Rv (.bool (decide (k2 < 5))) w19 ?_
                  rcases Bool.eq_false_or_eq_true (decide (k2 < 5)) with c8 | c8
                  · have d8 : k2 < 5 := of_decide_eq_true c8
                    refine Rw (.bool true) w19 (eq_bool (by kernel_rfl) c8) ?_
                    refine Rv (ptr b1 2) w19 ?_
                    refine S_load (run_load_one (H.blk 3) Try.underlying3 rfl rfl) rfl rfl rfl rfl rfl ?_
                    refine Rv (.bool (kind != 1)) w19 ?_
                    refine Rv (.bool (kind != 1)) w19 ?_
                    refine wpR_nil ?_
                    refine E_then_normal ?_
                    refine C_cond rfl (fun c9 => ?_) (fun c9 => ?_)
                    · have d9 : kind ≠ 1 := bne_iff_ne.1 c9
                      refine C_skip ?_
                      refine E_then_normal ?_
                      refine C_seq ?_
                      refine C_block ?_
                      refine C_seq ?_
                      refine Cs [(163, (.bool (kind != 1))), (22, (.int .i64 k2)), (21, (.int .i64 lk)), (20, (.slice (some ⟨b4, 0, none⟩) 5 5)), (149, (.bool (!((2 == 2) && (((128 + (data.length : Int) + (target.size : Int) + sumX xs + (s.size : Int)) == (64 + by_)) && true))))), (119, (.bool (decide (ix < (xs.length : Int))))), (19, (.int .i64 ix)), (18, (.int .i64 by_)), (109, (.bool false)), (17, (.int .i64 ((data.length : Int) + (target.size : Int)))), (16, (.bool (sameX xs xs))), (15, (.int .i64 0)), (14, v1), (13, (.int .i64 0)), (12, (ptr b3 0)), (61, (.bool (decide ((data.length : Int) > 4096)))), (43, (.bool false)), (11, (.int .i64 0)), (10, (.int .i64 2)), (9, (ptr b2 0)), (32, (.bool false)), (8, (ptr u1 0)), (7, (.bool true)), (3, (ptr b1 0)), (0, (.agg #[vn, (.int .i64 ino), (.int .i64 kind), (.int .i64 m), (.int .i64 u'), (.int .i64 gi'), vd, (.string target), vx, (.bool opq)])), (1, (.string s)), (2, (.int .i64 more))] ?_
                      refine C_region ?_
                      refine Rv (.slice (some ⟨b4, 0, none⟩) 5 5) w19 ?_
                      refine Rv (.int .i64 k2) w19 ?_
                      refine Rw (elemP 1 (.slice (some ⟨b4, 0, none⟩) 5 5) k2) w19 (X_indexAddr ((hx3.mono m4).mono H.m) (by first | decide | omega | exact nm_size (by omega) (by omega) | (simp; omega)) (by first | decide | omega | exact nm_size (by omega) (by omega) | (simp; omega)) rfl Try.underlying22 (by kernel_rfl) rfl rfl) ?_
                      refine Rw (.string (nth NM k2)) w19 (X_load rfl rfl (run_load_str ((hx3.mono m4).mono H.m) (by first | decide | omega | exact nm_size (by omega) (by omega) | (simp; omega)) (by first | decide | omega | exact nm_size (by omega) (by omega) | (simp; omega)) Try.underlying9 (by kernel_rfl))) ?_
                      refine Rv (.string s) w19 ?_
                      refine Rv (.bool (!((nth NM k2).toList == s.toList))) w19 ?_
                      refine wpR_nil ?_
                      refine E_then_normal ?_
                      refine C_cond rfl (fun c10 => ?_) (fun c10 => ?_)
                      · refine C_seq ?_
                        refine C_seq ?_
                        refine Cs [(171, (.bool (!((nth NM k2).toList == s.toList)))), (163, (.bool (kind != 1))), (22, (.int .i64 k2)), (21, (.int .i64 lk)), (20, (.slice (some ⟨b4, 0, none⟩) 5 5)), (149, (.bool (!((2 == 2) && (((128 + (data.length : Int) + (target.size : Int) + sumX xs + (s.size : Int)) == (64 + by_)) && true))))), (119, (.bool (decide (ix < (xs.length : Int))))), (19, (.int .i64 ix)), (18, (.int .i64 by_)), (109, (.bool false)), (17, (.int .i64 ((data.length : Int) + (target.size : Int)))), (16, (.bool (sameX xs xs))), (15, (.int .i64 0)), (14, v1), (13, (.int .i64 0)), (12, (ptr b3 0)), (61, (.bool (decide ((data.length : Int) > 4096)))), (43, (.bool false)), (11, (.int .i64 0)), (10, (.int .i64 2)), (9, (ptr b2 0)), (32, (.bool false)), (8, (ptr u1 0)), (7, (.bool true)), (3, (ptr b1 0)), (0, (.agg #[vn, (.int .i64 ino), (.int .i64 kind), (.int .i64 m), (.int .i64 u'), (.int .i64 gi'), vd, (.string target), vx, (.bool opq)])), (1, (.string s)), (2, (.int .i64 more))] ?_
                        refine C_region ?_
                        refine Rv (ptr u1 0) w19 ?_
                        refine Rv (.slice (some ⟨b4, 0, none⟩) 5 5) w19 ?_
                        refine Rv (.int .i64 k2) w19 ?_
                        refine Rw (elemP 1 (.slice (some ⟨b4, 0, none⟩) 5 5) k2) w19 (X_indexAddr ((hx3.mono m4).mono H.m) (by first | decide | omega | exact nm_size (by omega) (by omega) | (simp; omega)) (by first | decide | omega | exact nm_size (by omega) (by omega) | (simp; omega)) rfl Try.underlying22 (by kernel_rfl) rfl rfl) ?_
                        refine Rw (.string (nth NM k2)) w19 (X_load rfl rfl (run_load_str ((hx3.mono m4).mono H.m) (by first | decide | omega | exact nm_size (by omega) (by omega) | (simp; omega)) (by first | decide | omega | exact nm_size (by omega) (by omega) | (simp; omega)) Try.underlying9 (by kernel_rfl))) ?_
                        refine Rv (.int .i64 2) w19 ?_
                        replace H := H.pick 1
                        have hne : nth NM k2 ≠ s := ne_of_list c10
                        have hno := hE2.none (by omega) (by omega) hne
                        refine Rc #[(ptr u1 0), (.int .i64 1), (.string (nth NM k2)), (.int .i64 2)] w19 (link_S u1 100 100000 3 (stL ⟨kind, m, u', gi', data, target, xs⟩ E) 1 (nth NM k2) 2 _ _ _ _ H 0 (stL ⟨kind, m, u', gi', data, target, xs⟩ (((nth NM k2), 2) :: E)) (lkL (nm_valid (by omega) (by omega)) hno (bne_iff_ne.1 c9)) (lkLU (nm_valid (by omega) (by omega)) hno (bne_iff_ne.1 c9)) (by decide) (by first | decide | omega | exact nm_size (by omega) (by omega) | (simp; omega)) (by decide) (ofGet getL2 ⟨by show (0 : Int) ≤ E.length; omega, by show (E.length : Int) < 1000000000; omega⟩) (ofGet getL1 (by show E.length < _; omega))) ?_
                        rintro _ w20 ⟨g4, m5, Hn, rfl⟩
                        replace H := Hn
                        clear Hn
                        refine Rv (.bool false) w20 ?_
                        refine wpR_nil ?_
                        refine E_then_normal ?_
                        refine C_false rfl ?_
                        refine C_skip ?_
                        refine E_then_normal ?_
                        refine Cs [(179, (.bool false)), (171, (.bool (!((nth NM k2).toList == s.toList)))), (163, (.bool (kind != 1))), (22, (.int .i64 k2)), (21, (.int .i64 lk)), (20, (.slice (some ⟨b4, 0, none⟩) 5 5)), (149, (.bool (!((2 == 2) && (((128 + (data.length : Int) + (target.size : Int) + sumX xs + (s.size : Int)) == (64 + by_)) && true))))), (119, (.bool (decide (ix < (xs.length : Int))))), (19, (.int .i64 ix)), (18, (.int .i64 by_)), (109, (.bool false)), (17, (.int .i64 ((data.length : Int) + (target.size : Int)))), (16, (.bool (sameX xs xs))), (15, (.int .i64 0)), (14, v1), (13, (.int .i64 0)), (12, (ptr b3 0)), (61, (.bool (decide ((data.length : Int) > 4096)))), (43, (.bool false)), (11, (.int .i64 0)), (10, (.int .i64 2)), (9, (ptr b2 0)), (32, (.bool false)), (8, (ptr u1 0)), (7, (.bool true)), (3, (ptr b1 0)), (0, (.agg #[vn, (.int .i64 ino), (.int .i64 kind), (.int .i64 m), (.int .i64 u'), (.int .i64 gi'), vd, (.string target), vx, (.bool opq)])), (1, (.string s)), (2, (.int .i64 more))] ?_
                        refine C_region ?_
                        refine Rv (.int .i64 lk) w20 ?_
                        refine Rw (.int .i64 (lk + 1)) w20 (eq_int (by kernel_rfl) (wrap64_in (by first | decide | omega | exact nm_size (by omega) (by omega) | (simp; omega)) (by first | decide | omega | exact nm_size (by omega) (by omega) | (simp; omega)))) ?_
                        refine Rv (.int .i64 (lk + 1)) w20 ?_
                        refine wpR_nil ?_
                        refine E_block_normal ?_
                        refine E_then_normal ?_
                        refine Cs [(21, (.int .i64 (lk + 1))), (179, (.bool false)), (171, (.bool (!((nth NM k2).toList == s.toList)))), (163, (.bool (kind != 1))), (22, (.int .i64 k2)), (20, (.slice (some ⟨b4, 0, none⟩) 5 5)), (149, (.bool (!((2 == 2) && (((128 + (data.length : Int) + (target.size : Int) + sumX xs + (s.size : Int)) == (64 + by_)) && true))))), (119, (.bool (decide (ix < (xs.length : Int))))), (19, (.int .i64 ix)), (18, (.int .i64 by_)), (109, (.bool false)), (17, (.int .i64 ((data.length : Int) + (target.size : Int)))), (16, (.bool (sameX xs xs))), (15, (.int .i64 0)), (14, v1), (13, (.int .i64 0)), (12, (ptr b3 0)), (61, (.bool (decide ((data.length : Int) > 4096)))), (43, (.bool false)), (11, (.int .i64 0)), (10, (.int .i64 2)), (9, (ptr b2 0)), (32, (.bool false)), (8, (ptr u1 0)), (7, (.bool true)), (3, (ptr b1 0)), (0, (.agg #[vn, (.int .i64 ino), (.int .i64 kind), (.int .i64 m), (.int .i64 u'), (.int .i64 gi'), vd, (.string target), vx, (.bool opq)])), (1, (.string s)), (2, (.int .i64 more))] ?_
                        refine C_region ?_
                        refine Rv (.int .i64 k2) w20 ?_
                        refine Rw (.int .i64 (k2 + 1)) w20 (eq_int (by kernel_rfl) (wrap64_in (by first | decide | omega | exact nm_size (by omega) (by omega) | (simp; omega)) (by first | decide | omega | exact nm_size (by omega) (by omega) | (simp; omega)))) ?_
                        refine Rv (.int .i64 (k2 + 1)) w20 ?_
                        refine wpR_nil ?_
                        replace H := H.pick 3
                        replace H := H.pick 3
                        replace H := H.pick 2
                        replace H := H.pick 3
                        refine E_then_mid fun aq4 ha2 => ⟨(k2 + 1, lk + 1, ((nth NM k2), 2) :: E), ha2.sub ⟨rfl, rfl, rfl, rfl, rfl, rfl, rfl, rfl, rfl, rfl, rfl, rfl, rfl, rfl, rfl, rfl, rfl, rfl, rfl, rfl, rfl, rfl, rfl, rfl, rfl, rfl, trivial⟩, ⟨g4, by omega, by omega, by omega, by omega, by first | omega | (rw [List.length_cons]; omega), hE2.put (by omega) (by omega) hne, (m4.trans m5), H⟩, ?_⟩
                        (first | omega | (dsimp only; omega))
                      · refine C_skip ?_
                        refine E_block_normal ?_
                        refine E_then_normal ?_
                        refine Cs [(171, (.bool (!((nth NM k2).toList == s.toList)))), (163, (.bool (kind != 1))), (22, (.int .i64 k2)), (21, (.int .i64 lk)), (20, (.slice (some ⟨b4, 0, none⟩) 5 5)), (149, (.bool (!((2 == 2) && (((128 + (data.length : Int) + (target.size : Int) + sumX xs + (s.size : Int)) == (64 + by_)) && true))))), (119, (.bool (decide (ix < (xs.length : Int))))), (19, (.int .i64 ix)), (18, (.int .i64 by_)), (109, (.bool false)), (17, (.int .i64 ((data.length : Int) + (target.size : Int)))), (16, (.bool (sameX xs xs))), (15, (.int .i64 0)), (14, v1), (13, (.int .i64 0)), (12, (ptr b3 0)), (61, (.bool (decide ((data.length : Int) > 4096)))), (43, (.bool false)), (11, (.int .i64 0)), (10, (.int .i64 2)), (9, (ptr b2 0)), (32, (.bool false)), (8, (ptr u1 0)), (7, (.bool true)), (3, (ptr b1 0)), (0, (.agg #[vn, (.int .i64 ino), (.int .i64 kind), (.int .i64 m), (.int .i64 u'), (.int .i64 gi'), vd, (.string target), vx, (.bool opq)])), (1, (.string s)), (2, (.int .i64 more))] ?_
                        refine C_region ?_
                        refine Rv (.int .i64 k2) w19 ?_
                        refine Rw (.int .i64 (k2 + 1)) w19 (eq_int (by kernel_rfl) (wrap64_in (by first | decide | omega | exact nm_size (by omega) (by omega) | (simp; omega)) (by first | decide | omega | exact nm_size (by omega) (by omega) | (simp; omega)))) ?_
                        refine Rv (.int .i64 (k2 + 1)) w19 ?_
                        refine wpR_nil ?_
                        replace H := H.pick 3
                        replace H := H.pick 3
                        replace H := H.pick 3
                        replace H := H.pick 3
                        refine E_then_mid fun aq5 ha3 => ⟨(k2 + 1, lk, E), ha3.sub ⟨rfl, rfl, rfl, rfl, rfl, rfl, rfl, rfl, rfl, rfl, rfl, rfl, rfl, rfl, rfl, rfl, rfl, rfl, rfl, rfl, rfl, rfl, rfl, rfl, rfl, rfl, trivial⟩, ⟨gl2, by omega, by omega, by omega, by omega, by first | omega | (rw [List.length_cons]; omega), hE2.skip, m4, H⟩, ?_⟩
                        (first | omega | (dsimp only; omega))
                    · have d9 : kind = 1 := bne_eq_false_iff_eq.1 c9
                      refine C_exit ?_
                      refine E_then_exit ?_
                      refine E_then_exit ?_
                      refine E_block_here ?_
                      refine E_then_normal ?_
                      refine C_seq ?_
                      refine Cs [(163, (.bool (kind != 1))), (22, (.int .i64 k2)), (21, (.int .i64 lk)), (20, (.slice (some ⟨b4, 0, none⟩) 5 5)), (149, (.bool (!((2 == 2) && (((128 + (data.length : Int) + (target.size : Int) + sumX xs + (s.size : Int)) == (64 + by_)) && true))))), (119, (.bool (decide (ix < (xs.length : Int))))), (19, (.int .i64 ix)), (18, (.int .i64 by_)), (109, (.bool false)), (17, (.int .i64 ((data.length : Int) + (target.size : Int)))), (16, (.bool (sameX xs xs))), (15, (.int .i64 0)), (14, v1), (13, (.int .i64 0)), (12, (ptr b3 0)), (61, (.bool (decide ((data.length : Int) > 4096)))), (43, (.bool false)), (11, (.int .i64 0)), (10, (.int .i64 2)), (9, (ptr b2 0)), (32, (.bool false)), (8, (ptr u1 0)), (7, (.bool true)), (3, (ptr b1 0)), (0, (.agg #[vn, (.int .i64 ino), (.int .i64 kind), (.int .i64 m), (.int .i64 u'), (.int .i64 gi'), vd, (.string target), vx, (.bool opq)])), (1, (.string s)), (2, (.int .i64 more))] ?_
                      refine C_region ?_
                      refine Rv (ptr u1 0) w19 ?_
                      refine Rv (.int .i64 2) w19 ?_
                      refine Rc #[(ptr u1 0), (.int .i64 2)] w19 (stat_S u1 100 100000 3 (stL ⟨kind, m, u', gi', data, target, xs⟩ E) 2 ({ newU ⟨kind, m, u', gi', data, target, xs⟩ 1 with links := (E.length : Int) }) _ _ _ _ (H.pick 1) rfl (by show data.length + target.size + 0 ≤ _; omega) (by decide)) ?_
                      rintro _ w21 ⟨rfl, l10⟩
                      replace H := H.le l10
                      refine Rv (.tuple #[(.agg #[(.int .i64 kind), (.int .i64 m), (.int .i64 u'), (.int .i64 gi'), (.int .i64 (E.length : Int)), (.int .i64 ((data.length : Int) + (target.size : Int) + ((0 : Nat) : Int)))]), (.int .i64 0)]) w21 ?_
                      refine Rv (.agg #[(.int .i64 kind), (.int .i64 m), (.int .i64 u'), (.int .i64 gi'), (.int .i64 (E.length : Int)), (.int .i64 ((data.length : Int) + (target.size : Int) + ((0 : Nat) : Int)))]) w21 ?_
                      refine Rv (.int .i64 0) w21 ?_
                      refine S_store (H.blk 0) rfl rfl rfl rfl rfl (by kernel_rfl) rfl (Nat.le_of_ble_eq_true rfl) #[(.int .i64 kind), (.int .i64 m), (.int .i64 u'), (.int .i64 gi'), (.int .i64 (E.length : Int)), (.int .i64 ((data.length : Int) + (target.size : Int) + ((0 : Nat) : Int)))] rfl fun w22 u4 => ?_
                      replace H := H.upd 0 u4
                      refine wpR_nil ?_
                      refine E_then_normal ?_
                      refine C_seq ?_
                      refine C_seq ?_
                      refine Cs [(163, (.bool (kind != 1))), (22, (.int .i64 k2)), (21, (.int .i64 lk)), (20, (.slice (some ⟨b4, 0, none⟩) 5 5)), (149, (.bool (!((2 == 2) && (((128 + (data.length : Int) + (target.size : Int) + sumX xs + (s.size : Int)) == (64 + by_)) && true))))), (119, (.bool (decide (ix < (xs.length : Int))))), (19, (.int .i64 ix)), (18, (.int .i64 by_)), (109, (.bool false)), (17, (.int .i64 ((data.length : Int) + (target.size : Int)))), (16, (.bool (sameX xs xs))), (15, (.int .i64 0)), (14, v1), (13, (.int .i64 0)), (12, (ptr b3 0)), (61, (.bool (decide ((data.length : Int) > 4096)))), (43, (.bool false)), (11, (.int .i64 0)), (10, (.int .i64 2)), (9, (ptr b2 0)), (32, (.bool false)), (8, (ptr u1 0)), (7, (.bool true)), (3, (ptr b1 0)), (0, (.agg #[vn, (.int .i64 ino), (.int .i64 kind), (.int .i64 m), (.int .i64 u'), (.int .i64 gi'), vd, (.string target), vx, (.bool opq)])), (1, (.string s)), (2, (.int .i64 more))] ?_
                      refine C_region ?_
                      refine Rv (ptr b3 4) w22 ?_
                      refine S_load (run_load_one (H.blk 0) Try.underlying3 rfl rfl) rfl rfl rfl rfl rfl ?_
                      refine Rv (.int .i64 lk) w22 ?_
                      refine Rw (.int .i64 (1 + lk)) w22 (eq_int (by kernel_rfl) (wrap64_in (by first | decide | omega | exact nm_size (by omega) (by omega) | (simp; omega)) (by first | decide | omega | exact nm_size (by omega) (by omega) | (simp; omega)))) ?_
                      refine Rv (.bool ((E.length : Int) != (1 + lk))) w22 ?_
                      rcases Bool.eq_false_or_eq_true ((E.length : Int) != (1 + lk)) with c11 | c11
                      · have d11 : (E.length : Int) ≠ (1 + lk) := bne_iff_ne.1 c11
                        refine Rw (.bool true) w22 (eq_bool (by kernel_rfl) c11) ?_
                        iterate 4 refine Rs ?_
                        refine Rv (.bool true) w22 ?_
                        refine wpR_nil ?_
                        refine E_then_normal ?_
                        refine C_true rfl ?_
                        refine C_seq ?_
                        refine Cs [(198, (.bool true)), (163, (.bool (kind != 1))), (22, (.int .i64 k2)), (21, (.int .i64 lk)), (20, (.slice (some ⟨b4, 0, none⟩) 5 5)), (149, (.bool (!((2 == 2) && (((128 + (data.length : Int) + (target.size : Int) + sumX xs + (s.size : Int)) == (64 + by_)) && true))))), (119, (.bool (decide (ix < (xs.length : Int))))), (19, (.int .i64 ix)), (18, (.int .i64 by_)), (109, (.bool false)), (17, (.int .i64 ((data.length : Int) + (target.size : Int)))), (16, (.bool (sameX xs xs))), (15, (.int .i64 0)), (14, v1), (13, (.int .i64 0)), (12, (ptr b3 0)), (61, (.bool (decide ((data.length : Int) > 4096)))), (43, (.bool false)), (11, (.int .i64 0)), (10, (.int .i64 2)), (9, (ptr b2 0)), (32, (.bool false)), (8, (ptr u1 0)), (7, (.bool true)), (3, (ptr b1 0)), (0, (.agg #[vn, (.int .i64 ino), (.int .i64 kind), (.int .i64 m), (.int .i64 u'), (.int .i64 gi'), vd, (.string target), vx, (.bool opq)])), (1, (.string s)), (2, (.int .i64 more))] ?_
                        refine C_region ?_
                        refine Rv (.bool false) w22 ?_
                        refine wpR_nil ?_
                        refine E_then_normal ?_
                        refine C_ret ?_
                        refine E_then_ret ?_
                        refine E_ret (res_one rfl rfl) ⟨_, rfl, ?_⟩
                        exfalso; first | omega | (simp_all; done) | (simp_all; omega) | (revert c11; simp [sameX_refl]; done) | (revert c11; simp [sameX_refl]; omega)
                      · have d11 : (E.length : Int) = (1 + lk) := bne_eq_false_iff_eq.1 c11
                        refine Rw (.bool false) w22 (eq_bool (by kernel_rfl) c11) ?_
                        refine Rv (ptr u1 0) w22 ?_
                        refine Rv (.string s) w22 ?_
                        replace H := H.pick 1
                        refine Rc #[(ptr u1 0), (.int .i64 1), (.string s)] w22 (remove_S u1 100 100000 3 (stL ⟨kind, m, u', gi', data, target, xs⟩ E) 1 s _ _ _ _ H 0 (stR ⟨kind, m, u', gi', data, target, xs⟩ (delK E s)) (rmL hE2.get) (rmLS hE2.nodup hE2.get) (by decide) (by first | decide | omega | exact nm_size (by omega) (by omega) | (simp; omega)) (hexL (by omega) (fun v hv => by rw [hE2.get] at hv; exact (Option.some.inj hv).symm))) ?_
                        rintro _ w23 ⟨g5, m6, Hn, rfl⟩
                        replace H := Hn
                        clear Hn
                        refine Rv (.bool false) w23 ?_
                        refine Rv (.bool false) w23 ?_
                        refine wpR_nil ?_
                        refine E_then_normal ?_
                        refine C_false rfl ?_
                        refine C_skip ?_
                        refine E_then_normal ?_
                        refine C_seq ?_
                        refine C_seq ?_
                        refine Cs [(198, (.bool false)), (163, (.bool (kind != 1))), (22, (.int .i64 k2)), (21, (.int .i64 lk)), (20, (.slice (some ⟨b4, 0, none⟩) 5 5)), (149, (.bool (!((2 == 2) && (((128 + (data.length : Int) + (target.size : Int) + sumX xs + (s.size : Int)) == (64 + by_)) && true))))), (119, (.bool (decide (ix < (xs.length : Int))))), (19, (.int .i64 ix)), (18, (.int .i64 by_)), (109, (.bool false)), (17, (.int .i64 ((data.length : Int) + (target.size : Int)))), (16, (.bool (sameX xs xs))), (15, (.int .i64 0)), (14, v1), (13, (.int .i64 0)), (12, (ptr b3 0)), (61, (.bool (decide ((data.length : Int) > 4096)))), (43, (.bool false)), (11, (.int .i64 0)), (10, (.int .i64 2)), (9, (ptr b2 0)), (32, (.bool false)), (8, (ptr u1 0)), (7, (.bool true)), (3, (ptr b1 0)), (0, (.agg #[vn, (.int .i64 ino), (.int .i64 kind), (.int .i64 m), (.int .i64 u'), (.int .i64 gi'), vd, (.string target), vx, (.bool opq)])), (1, (.string s)), (2, (.int .i64 more))] ?_
                        refine C_region ?_
                        refine Rv (.int .i64 0) w23 ?_
                        refine wpR_nil ?_
                        refine E_then_normal ?_
                        refine C_block ?_
                        refine C_loop (ι := Int × Int × List (ByteArray × Int)) (fun (i : Int × Int × List (ByteArray × Int)) => match i with | (j, lk3, R) => [(23, (.int .i64 j)), (21, (.int .i64 lk3)), (198, (.bool false)), (163, (.bool (kind != 1))), (22, (.int .i64 k2)), (20, (.slice (some ⟨b4, 0, none⟩) 5 5)), (149, (.bool (!((2 == 2) && (((128 + (data.length : Int) + (target.size : Int) + sumX xs + (s.size : Int)) == (64 + by_)) && true))))), (119, (.bool (decide (ix < (xs.length : Int))))), (19, (.int .i64 ix)), (18, (.int .i64 by_)), (109, (.bool false)), (17, (.int .i64 ((data.length : Int) + (target.size : Int)))), (16, (.bool (sameX xs xs))), (15, (.int .i64 0)), (14, v1), (13, (.int .i64 0)), (12, (ptr b3 0)), (61, (.bool (decide ((data.length : Int) > 4096)))), (43, (.bool false)), (11, (.int .i64 0)), (10, (.int .i64 2)), (9, (ptr b2 0)), (32, (.bool false)), (8, (ptr u1 0)), (7, (.bool true)), (3, (ptr b1 0)), (0, (.agg #[vn, (.int .i64 ino), (.int .i64 kind), (.int .i64 m), (.int .i64 u'), (.int .i64 gi'), vd, (.string target), vx, (.bool opq)])), (1, (.string s)), (2, (.int .i64 more))]) (fun (i : Int × Int × List (ByteArray × Int)) w' => match i with | (j, lk3, R) => ∃ gl3 : World, 0 ≤ j ∧ j ≤ 5 ∧ (R.length : Int) = lk3 ∧ lk3 ≤ 5 ∧ In3 s j R ∧ Mono g5 gl3 ∧ SL ⟨w, g⟩ gl3 w' [upS Try.prog uty u1 100 100000 3 (stR ⟨kind, m, u', gi', data, target, xs⟩ R), blk b3 #[(.int .i64 kind), (.int .i64 m), (.int .i64 u'), (.int .i64 gi'), (.int .i64 (E.length : Int)), (.int .i64 ((data.length : Int) + (target.size : Int) + ((0 : Nat) : Int)))] 39, blk b2 #[(.int .i64 1), (.int .i64 64)] 33, blk b1 #[vn, (.int .i64 ino), (.int .i64 kind), (.int .i64 m), (.int .i64 u'), (.int .i64 gi'), vd, (.string target), vx, (.bool opq)] 28]) (fun (i : Int × Int × List (ByteArray × Int)) => match i with | (j, lk3, R) => (5 - j).toNat) (0, lk, (delK E s)) ⟨rfl, rfl, rfl, rfl, rfl, rfl, rfl, rfl, rfl, rfl, rfl, rfl, rfl, rfl, rfl, rfl, rfl, rfl, rfl, rfl, rfl, rfl, rfl, rfl, rfl, rfl, rfl, rfl, rfl, trivial⟩ ⟨g5, by omega, by omega, by have q := delK_len hE2.nodup hE2.get; omega, by omega, hE2.del (by omega), Mono.refl _, H⟩ ?_
                        clear H
                        rintro ⟨j, lk3, R⟩ w24 ⟨gl3, hj0, hj5, hRl, hl5, hR, m7, H⟩
                        refine Cs [(23, (.int .i64 j)), (21, (.int .i64 lk3)), (198, (.bool false)), (163, (.bool (kind != 1))), (22, (.int .i64 k2)), (20, (.slice (some ⟨b4, 0, none⟩) 5 5)), (149, (.bool (!((2 == 2) && (((128 + (data.length : Int) + (target.size : Int) + sumX xs + (s.size : Int)) == (64 + by_)) && true))))), (119, (.bool (decide (ix < (xs.length : Int))))), (19, (.int .i64 ix)), (18, (.int .i64 by_)), (109, (.bool false)), (17, (.int .i64 ((data.length : Int) + (target.size : Int)))), (16, (.bool (sameX xs xs))), (15, (.int .i64 0)), (14, v1), (13, (.int .i64 0)), (12, (ptr b3 0)), (61, (.bool (decide ((data.length : Int) > 4096)))), (43, (.bool false)), (11, (.int .i64 0)), (10, (.int .i64 2)), (9, (ptr b2 0)), (32, (.bool false)), (8, (ptr u1 0)), (7, (.bool true)), (3, (ptr b1 0)), (0, (.agg #[vn, (.int .i64 ino), (.int .i64 kind), (.int .i64 m), (.int .i64 u'), (.int .i64 gi'), vd, (.string target), vx, (.bool opq)])), (1, (.string s)), (2, (.int .i64 more))] ?_
                        refine C_seq ?_
                        refine C_seq ?_
                        refine C_region ?_
                        refine Rv (.int .i64 j) w24 ?_
                        refine Rv (.bool (decide (j < 5))) w24 ?_
                        rcases Bool.eq_false_or_eq_true (decide (j < 5)) with c12 | c12
                        · have d12 : j < 5 := of_decide_eq_true c12
                          refine Rw (.bool true) w24 (eq_bool (by kernel_rfl) c12) ?_
                          refine Rv (.int .i64 lk3) w24 ?_
                          refine Rv (.bool (decide (lk3 > 0))) w24 ?_
                          refine Rv (.bool (decide (lk3 > 0))) w24 ?_
                          refine wpR_nil ?_
                          refine E_then_normal ?_
                          refine C_cond rfl (fun c13 => ?_) (fun c13 => ?_)
                          · have d13 : lk3 > 0 := of_decide_eq_true c13
                            refine C_skip ?_
                            refine E_then_normal ?_
                            refine C_seq ?_
                            refine C_block ?_
                            refine C_seq ?_
                            refine Cs [(204, (.bool (decide (lk3 > 0)))), (23, (.int .i64 j)), (21, (.int .i64 lk3)), (198, (.bool false)), (163, (.bool (kind != 1))), (22, (.int .i64 k2)), (20, (.slice (some ⟨b4, 0, none⟩) 5 5)), (149, (.bool (!((2 == 2) && (((128 + (data.length : Int) + (target.size : Int) + sumX xs + (s.size : Int)) == (64 + by_)) && true))))), (119, (.bool (decide (ix < (xs.length : Int))))), (19, (.int .i64 ix)), (18, (.int .i64 by_)), (109, (.bool false)), (17, (.int .i64 ((data.length : Int) + (target.size : Int)))), (16, (.bool (sameX xs xs))), (15, (.int .i64 0)), (14, v1), (13, (.int .i64 0)), (12, (ptr b3 0)), (61, (.bool (decide ((data.length : Int) > 4096)))), (43, (.bool false)), (11, (.int .i64 0)), (10, (.int .i64 2)), (9, (ptr b2 0)), (32, (.bool false)), (8, (ptr u1 0)), (7, (.bool true)), (3, (ptr b1 0)), (0, (.agg #[vn, (.int .i64 ino), (.int .i64 kind), (.int .i64 m), (.int .i64 u'), (.int .i64 gi'), vd, (.string target), vx, (.bool opq)])), (1, (.string s)), (2, (.int .i64 more))] ?_
                            refine C_region ?_
                            refine Rv (.slice (some ⟨b4, 0, none⟩) 5 5) w24 ?_
                            refine Rv (.int .i64 j) w24 ?_
                            refine Rw (elemP 1 (.slice (some ⟨b4, 0, none⟩) 5 5) j) w24 (X_indexAddr ((hx3.mono ((m4.trans m6).trans m7)).mono H.m) (by first | decide | omega | exact nm_size (by omega) (by omega) | (simp; omega)) (by first | decide | omega | exact nm_size (by omega) (by omega) | (simp; omega)) rfl Try.underlying22 (by kernel_rfl) rfl rfl) ?_
                            refine Rw (.string (nth NM j)) w24 (X_load rfl rfl (run_load_str ((hx3.mono ((m4.trans m6).trans m7)).mono H.m) (by first | decide | omega | exact nm_size (by omega) (by omega) | (simp; omega)) (by first | decide | omega | exact nm_size (by omega) (by omega) | (simp; omega)) Try.underlying9 (by kernel_rfl))) ?_
                            refine Rv (.string s) w24 ?_
                            refine Rv (.bool (!((nth NM j).toList == s.toList))) w24 ?_
                            rcases Bool.eq_false_or_eq_true (!((nth NM j).toList == s.toList)) with c14 | c14
                            · refine Rw (.bool true) w24 (eq_bool (by kernel_rfl) c14) ?_
                              refine Rv (ptr u1 0) w24 ?_
                              refine Rv (.slice (some ⟨b4, 0, none⟩) 5 5) w24 ?_
                              refine Rv (.int .i64 j) w24 ?_
                              refine Rw (elemP 1 (.slice (some ⟨b4, 0, none⟩) 5 5) j) w24 (X_indexAddr ((hx3.mono ((m4.trans m6).trans m7)).mono H.m) (by first | decide | omega | exact nm_size (by omega) (by omega) | (simp; omega)) (by first | decide | omega | exact nm_size (by omega) (by omega) | (simp; omega)) rfl Try.underlying22 (by kernel_rfl) rfl rfl) ?_
                              refine Rw (.string (nth NM j)) w24 (X_load rfl rfl (run_load_str ((hx3.mono ((m4.trans m6).trans m7)).mono H.m) (by first | decide | omega | exact nm_size (by omega) (by omega) | (simp; omega)) (by first | decide | omega | exact nm_size (by omega) (by omega) | (simp; omega)) Try.underlying9 (by kernel_rfl))) ?_
                              have hRne : R ≠ [] := fun e => by rw [e] at hRl; simp at hRl; omega
                              rcases hg2 : getK R (nth NM j) with _ | x1
                              · refine Rc #[(ptr u1 0), (.int .i64 1), (.string (nth NM j))] w24 (remove_S u1 100 100000 3 (stR ⟨kind, m, u', gi', data, target, xs⟩ R) 1 (nth NM j) _ _ _ _ H 20 (stR ⟨kind, m, u', gi', data, target, xs⟩ R) (by rw [stR_pos hRne]; exact rmNoL hg2) (by rw [stR_pos hRne]; exact rmNoLS hg2) (by decide) (by first | decide | omega | exact nm_size (by omega) (by omega) | (simp; omega)) (by rw [stR_pos hRne]; exact hexL (by omega) (fun v hv => hR.get2 hv))) ?_
                                rintro _ w25 ⟨g6, m8, Hn, rfl⟩
                                replace H := Hn
                                clear Hn
                                refine Rv (.bool false) w25 ?_
                                refine Rv (.bool false) w25 ?_
                                refine wpR_nil ?_
                                refine E_then_normal ?_
                                refine C_false rfl ?_
                                refine C_skip ?_
                                refine E_block_normal ?_
                                refine E_then_normal ?_
                                refine Cs [(221, (.bool false)), (204, (.bool (decide (lk3 > 0)))), (23, (.int .i64 j)), (21, (.int .i64 lk3)), (198, (.bool false)), (163, (.bool (kind != 1))), (22, (.int .i64 k2)), (20, (.slice (some ⟨b4, 0, none⟩) 5 5)), (149, (.bool (!((2 == 2) && (((128 + (data.length : Int) + (target.size : Int) + sumX xs + (s.size : Int)) == (64 + by_)) && true))))), (119, (.bool (decide (ix < (xs.length : Int))))), (19, (.int .i64 ix)), (18, (.int .i64 by_)), (109, (.bool false)), (17, (.int .i64 ((data.length : Int) + (target.size : Int)))), (16, (.bool (sameX xs xs))), (15, (.int .i64 0)), (14, v1), (13, (.int .i64 0)), (12, (ptr b3 0)), (61, (.bool (decide ((data.length : Int) > 4096)))), (43, (.bool false)), (11, (.int .i64 0)), (10, (.int .i64 2)), (9, (ptr b2 0)), (32, (.bool false)), (8, (ptr u1 0)), (7, (.bool true)), (3, (ptr b1 0)), (0, (.agg #[vn, (.int .i64 ino), (.int .i64 kind), (.int .i64 m), (.int .i64 u'), (.int .i64 gi'), vd, (.string target), vx, (.bool opq)])), (1, (.string s)), (2, (.int .i64 more))] ?_
                                refine C_region ?_
                                refine Rv (.int .i64 j) w25 ?_
                                refine Rw (.int .i64 (j + 1)) w25 (eq_int (by kernel_rfl) (wrap64_in (by first | decide | omega | exact nm_size (by omega) (by omega) | (simp; omega)) (by first | decide | omega | exact nm_size (by omega) (by omega) | (simp; omega)))) ?_
                                refine Rv (.int .i64 (j + 1)) w25 ?_
                                refine wpR_nil ?_
                                replace H := H.pick 3
                                replace H := H.pick 3
                                replace H := H.pick 3
                                replace H := H.pick 3
                                refine E_then_mid fun aq6 ha4 => ⟨(j + 1, lk3, R), ha4.sub ⟨rfl, rfl, rfl, rfl, rfl, rfl, rfl, rfl, rfl, rfl, rfl, rfl, rfl, rfl, rfl, rfl, rfl, rfl, rfl, rfl, rfl, rfl, rfl, rfl, rfl, rfl, rfl, rfl, rfl, trivial⟩, ⟨g6, by omega, by omega, by first | omega | (have q := delK_len hR.nodup hg2; omega), by omega, hR.skip (.inr hg2), (m7.trans m8), H⟩, ?_⟩
                                (first | omega | (dsimp only; omega))
                              · obtain rfl := hR.get2 hg2
                                refine Rc #[(ptr u1 0), (.int .i64 1), (.string (nth NM j))] w24 (remove_S u1 100 100000 3 (stR ⟨kind, m, u', gi', data, target, xs⟩ R) 1 (nth NM j) _ _ _ _ H 0 (stR ⟨kind, m, u', gi', data, target, xs⟩ (delK R (nth NM j))) (by rw [stR_pos hRne]; exact rmL hg2) (by rw [stR_pos hRne]; exact rmLS hR.nodup hg2) (by decide) (by first | decide | omega | exact nm_size (by omega) (by omega) | (simp; omega)) (by rw [stR_pos hRne]; exact hexL (by omega) (fun v hv => hR.get2 hv))) ?_
                                rintro _ w26 ⟨g7, m9, Hn, rfl⟩
                                replace H := Hn
                                clear Hn
                                refine Rv (.bool true) w26 ?_
                                refine Rv (.bool true) w26 ?_
                                refine wpR_nil ?_
                                refine E_then_normal ?_
                                refine C_true rfl ?_
                                refine Cs [(221, (.bool true)), (204, (.bool (decide (lk3 > 0)))), (23, (.int .i64 j)), (21, (.int .i64 lk3)), (198, (.bool false)), (163, (.bool (kind != 1))), (22, (.int .i64 k2)), (20, (.slice (some ⟨b4, 0, none⟩) 5 5)), (149, (.bool (!((2 == 2) && (((128 + (data.length : Int) + (target.size : Int) + sumX xs + (s.size : Int)) == (64 + by_)) && true))))), (119, (.bool (decide (ix < (xs.length : Int))))), (19, (.int .i64 ix)), (18, (.int .i64 by_)), (109, (.bool false)), (17, (.int .i64 ((data.length : Int) + (target.size : Int)))), (16, (.bool (sameX xs xs))), (15, (.int .i64 0)), (14, v1), (13, (.int .i64 0)), (12, (ptr b3 0)), (61, (.bool (decide ((data.length : Int) > 4096)))), (43, (.bool false)), (11, (.int .i64 0)), (10, (.int .i64 2)), (9, (ptr b2 0)), (32, (.bool false)), (8, (ptr u1 0)), (7, (.bool true)), (3, (ptr b1 0)), (0, (.agg #[vn, (.int .i64 ino), (.int .i64 kind), (.int .i64 m), (.int .i64 u'), (.int .i64 gi'), vd, (.string target), vx, (.bool opq)])), (1, (.string s)), (2, (.int .i64 more))] ?_
                                refine C_region ?_
                                refine Rv (.int .i64 lk3) w26 ?_
                                refine Rw (.int .i64 (lk3 - 1)) w26 (eq_int (by kernel_rfl) (wrap64_in (by first | decide | omega | exact nm_size (by omega) (by omega) | (simp; omega)) (by first | decide | omega | exact nm_size (by omega) (by omega) | (simp; omega)))) ?_
                                refine Rv (.int .i64 (lk3 - 1)) w26 ?_
                                refine wpR_nil ?_
                                refine E_block_normal ?_
                                refine E_then_normal ?_
                                refine Cs [(21, (.int .i64 (lk3 - 1))), (221, (.bool true)), (204, (.bool (decide (lk3 > 0)))), (23, (.int .i64 j)), (198, (.bool false)), (163, (.bool (kind != 1))), (22, (.int .i64 k2)), (20, (.slice (some ⟨b4, 0, none⟩) 5 5)), (149, (.bool (!((2 == 2) && (((128 + (data.length : Int) + (target.size : Int) + sumX xs + (s.size : Int)) == (64 + by_)) && true))))), (119, (.bool (decide (ix < (xs.length : Int))))), (19, (.int .i64 ix)), (18, (.int .i64 by_)), (109, (.bool false)), (17, (.int .i64 ((data.length : Int) + (target.size : Int)))), (16, (.bool (sameX xs xs))), (15, (.int .i64 0)), (14, v1), (13, (.int .i64 0)), (12, (ptr b3 0)), (61, (.bool (decide ((data.length : Int) > 4096)))), (43, (.bool false)), (11, (.int .i64 0)), (10, (.int .i64 2)), (9, (ptr b2 0)), (32, (.bool false)), (8, (ptr u1 0)), (7, (.bool true)), (3, (ptr b1 0)), (0, (.agg #[vn, (.int .i64 ino), (.int .i64 kind), (.int .i64 m), (.int .i64 u'), (.int .i64 gi'), vd, (.string target), vx, (.bool opq)])), (1, (.string s)), (2, (.int .i64 more))] ?_
                                refine C_region ?_
                                refine Rv (.int .i64 j) w26 ?_
                                refine Rw (.int .i64 (j + 1)) w26 (eq_int (by kernel_rfl) (wrap64_in (by first | decide | omega | exact nm_size (by omega) (by omega) | (simp; omega)) (by first | decide | omega | exact nm_size (by omega) (by omega) | (simp; omega)))) ?_
                                refine Rv (.int .i64 (j + 1)) w26 ?_
                                refine wpR_nil ?_
                                replace H := H.pick 3
                                replace H := H.pick 3
                                replace H := H.pick 3
                                replace H := H.pick 3
                                refine E_then_mid fun aq7 ha5 => ⟨(j + 1, lk3 - 1, (delK R (nth NM j))), ha5.sub ⟨rfl, rfl, rfl, rfl, rfl, rfl, rfl, rfl, rfl, rfl, rfl, rfl, rfl, rfl, rfl, rfl, rfl, rfl, rfl, rfl, rfl, rfl, rfl, rfl, rfl, rfl, rfl, rfl, rfl, trivial⟩, ⟨g7, by omega, by omega, by first | omega | (have q := delK_len hR.nodup hg2; omega), by omega, hR.take, (m7.trans m9), H⟩, ?_⟩
                                (first | omega | (dsimp only; omega))
                            · refine Rw (.bool false) w24 (eq_bool (by kernel_rfl) c14) ?_
                              iterate 7 refine Rs ?_
                              refine Rv (.bool false) w24 ?_
                              refine wpR_nil ?_
                              refine E_then_normal ?_
                              refine C_false rfl ?_
                              refine C_skip ?_
                              refine E_block_normal ?_
                              refine E_then_normal ?_
                              refine Cs [(221, (.bool false)), (204, (.bool (decide (lk3 > 0)))), (23, (.int .i64 j)), (21, (.int .i64 lk3)), (198, (.bool false)), (163, (.bool (kind != 1))), (22, (.int .i64 k2)), (20, (.slice (some ⟨b4, 0, none⟩) 5 5)), (149, (.bool (!((2 == 2) && (((128 + (data.length : Int) + (target.size : Int) + sumX xs + (s.size : Int)) == (64 + by_)) && true))))), (119, (.bool (decide (ix < (xs.length : Int))))), (19, (.int .i64 ix)), (18, (.int .i64 by_)), (109, (.bool false)), (17, (.int .i64 ((data.length : Int) + (target.size : Int)))), (16, (.bool (sameX xs xs))), (15, (.int .i64 0)), (14, v1), (13, (.int .i64 0)), (12, (ptr b3 0)), (61, (.bool (decide ((data.length : Int) > 4096)))), (43, (.bool false)), (11, (.int .i64 0)), (10, (.int .i64 2)), (9, (ptr b2 0)), (32, (.bool false)), (8, (ptr u1 0)), (7, (.bool true)), (3, (ptr b1 0)), (0, (.agg #[vn, (.int .i64 ino), (.int .i64 kind), (.int .i64 m), (.int .i64 u'), (.int .i64 gi'), vd, (.string target), vx, (.bool opq)])), (1, (.string s)), (2, (.int .i64 more))] ?_
                              refine C_region ?_
                              refine Rv (.int .i64 j) w24 ?_
                              refine Rw (.int .i64 (j + 1)) w24 (eq_int (by kernel_rfl) (wrap64_in (by first | decide | omega | exact nm_size (by omega) (by omega) | (simp; omega)) (by first | decide | omega | exact nm_size (by omega) (by omega) | (simp; omega)))) ?_
                              refine Rv (.int .i64 (j + 1)) w24 ?_
                              refine wpR_nil ?_
                              replace H := H.pick 3
                              replace H := H.pick 3
                              replace H := H.pick 3
                              replace H := H.pick 3
                              refine E_then_mid fun aq8 ha6 => ⟨(j + 1, lk3, R), ha6.sub ⟨rfl, rfl, rfl, rfl, rfl, rfl, rfl, rfl, rfl, rfl, rfl, rfl, rfl, rfl, rfl, rfl, rfl, rfl, rfl, rfl, rfl, rfl, rfl, rfl, rfl, rfl, rfl, rfl, rfl, trivial⟩, ⟨gl3, by omega, by omega, by first | omega | (have q := delK_len hR.nodup hRl; omega), by omega, hR.skip (.inl (eq_of_list c14)), m7, H⟩, ?_⟩
                              (first | omega | (dsimp only; omega))
                          · have d13 : ¬ lk3 > 0 := of_decide_eq_false c13
                            refine C_exit ?_
                            refine E_then_exit ?_
                            refine E_then_exit ?_
                            refine E_block_here ?_
                            refine E_then_normal ?_
                            refine C_seq ?_
                            refine Cs [(204, (.bool (decide (lk3 > 0)))), (23, (.int .i64 j)), (21, (.int .i64 lk3)), (198, (.bool false)), (163, (.bool (kind != 1))), (22, (.int .i64 k2)), (20, (.slice (some ⟨b4, 0, none⟩) 5 5)), (149, (.bool (!((2 == 2) && (((128 + (data.length : Int) + (target.size : Int) + sumX xs + (s.size : Int)) == (64 + by_)) && true))))), (119, (.bool (decide (ix < (xs.length : Int))))), (19, (.int .i64 ix)), (18, (.int .i64 by_)), (109, (.bool false)), (17, (.int .i64 ((data.length : Int) + (target.size : Int)))), (16, (.bool (sameX xs xs))), (15, (.int .i64 0)), (14, v1), (13, (.int .i64 0)), (12, (ptr b3 0)), (61, (.bool (decide ((data.length : Int) > 4096)))), (43, (.bool false)), (11, (.int .i64 0)), (10, (.int .i64 2)), (9, (ptr b2 0)), (32, (.bool false)), (8, (ptr u1 0)), (7, (.bool true)), (3, (ptr b1 0)), (0, (.agg #[vn, (.int .i64 ino), (.int .i64 kind), (.int .i64 m), (.int .i64 u'), (.int .i64 gi'), vd, (.string target), vx, (.bool opq)])), (1, (.string s)), (2, (.int .i64 more))] ?_
                            have hR0 : R = [] := hR.fin (by omega)
                            subst hR0
                            refine C_region ?_
                            refine Rv (ptr u1 0) w24 ?_
                            refine Rv (.int .i64 2) w24 ?_
                            refine Rc #[(ptr u1 0), (.int .i64 2)] w24 (statno_S u1 100 100000 3 ([(1, rootU [])]) 2 _ _ _ _ H rfl (by decide)) ?_
                            rintro _ w27 ⟨rfl, l11⟩
                            replace H := H.le l11
                            refine Rv (.tuple #[(.agg #[(.int .i64 0), (.int .i64 0), (.int .i64 0), (.int .i64 0), (.int .i64 0), (.int .i64 0)]), (.int .i64 1)]) w27 ?_
                            refine Rv (.agg #[(.int .i64 0), (.int .i64 0), (.int .i64 0), (.int .i64 0), (.int .i64 0), (.int .i64 0)]) w27 ?_
                            refine Rv (.int .i64 1) w27 ?_
                            refine Rv (.int .i64 1) w27 ?_
                            refine wpR_nil ?_
                            refine E_then_normal ?_
                            refine C_seq ?_
                            refine Cs [(13, (.int .i64 1)), (204, (.bool (decide (lk3 > 0)))), (23, (.int .i64 j)), (21, (.int .i64 lk3)), (198, (.bool false)), (163, (.bool (kind != 1))), (22, (.int .i64 k2)), (20, (.slice (some ⟨b4, 0, none⟩) 5 5)), (149, (.bool (!((2 == 2) && (((128 + (data.length : Int) + (target.size : Int) + sumX xs + (s.size : Int)) == (64 + by_)) && true))))), (119, (.bool (decide (ix < (xs.length : Int))))), (19, (.int .i64 ix)), (18, (.int .i64 by_)), (109, (.bool false)), (17, (.int .i64 ((data.length : Int) + (target.size : Int)))), (16, (.bool (sameX xs xs))), (15, (.int .i64 0)), (14, v1), (12, (ptr b3 0)), (61, (.bool (decide ((data.length : Int) > 4096)))), (43, (.bool false)), (11, (.int .i64 0)), (10, (.int .i64 2)), (9, (ptr b2 0)), (32, (.bool false)), (8, (ptr u1 0)), (7, (.bool true)), (3, (ptr b1 0)), (0, (.agg #[vn, (.int .i64 ino), (.int .i64 kind), (.int .i64 m), (.int .i64 u'), (.int .i64 gi'), vd, (.string target), vx, (.bool opq)])), (1, (.string s)), (2, (.int .i64 more))] ?_
                            refine C_drawT 6 [fun _ v => v = (.int .i64 1), fun _ v => v = (.bool true), fun _ v => v = (.bool true), fun _ v => v = (ptr u1 0), fun _ v => v = (.agg #[(.int .i64 1), (.int .i64 64)]), fun _ v => v = (.agg #[(.int .i64 1), (.int .i64 64)])] (by kernel_rfl) (by kernel_rfl) (by kernel_rfl) (by kernel_rfl) ⟨stab_exact _, stab_exact _, stab_exact _, stab_exact _, stab_exact _, stab_exact _, trivial⟩ ⟨?_, ?_, ?_, ?_, ?_, ?_, trivial⟩ ?_
                            · intro aq wd ld hfd hdd
                              have hfd := Fr.cast (s' := [(13, (.int .i64 1)), (204, (.bool (decide (lk3 > 0)))), (23, (.int .i64 j)), (21, (.int .i64 lk3)), (198, (.bool false)), (163, (.bool (kind != 1))), (22, (.int .i64 k2)), (20, (.slice (some ⟨b4, 0, none⟩) 5 5)), (149, (.bool (!((2 == 2) && (((128 + (data.length : Int) + (target.size : Int) + sumX xs + (s.size : Int)) == (64 + by_)) && true))))), (119, (.bool (decide (ix < (xs.length : Int))))), (19, (.int .i64 ix)), (18, (.int .i64 by_)), (109, (.bool false)), (17, (.int .i64 ((data.length : Int) + (target.size : Int)))), (16, (.bool (sameX xs xs))), (15, (.int .i64 0)), (14, v1), (12, (ptr b3 0)), (61, (.bool (decide ((data.length : Int) > 4096)))), (43, (.bool false)), (11, (.int .i64 0)), (10, (.int .i64 2)), (9, (ptr b2 0)), (32, (.bool false)), (8, (ptr u1 0)), (7, (.bool true)), (3, (ptr b1 0)), (0, (.agg #[vn, (.int .i64 ino), (.int .i64 kind), (.int .i64 m), (.int .i64 u'), (.int .i64 gi'), vd, (.string target), vx, (.bool opq)])), (1, (.string s)), (2, (.int .i64 more))]) hfd (by kernel_rfl)
                              exact G_val (v := (.int .i64 1)) (w' := wd) hfd rfl (by kernel_rfl) (by kernel_rfl) (Le.refl _) rfl
                            · intro aq wd ld hfd hdd
                              have hfd := Fr.cast (s' := [(13, (.int .i64 1)), (204, (.bool (decide (lk3 > 0)))), (23, (.int .i64 j)), (21, (.int .i64 lk3)), (198, (.bool false)), (163, (.bool (kind != 1))), (22, (.int .i64 k2)), (20, (.slice (some ⟨b4, 0, none⟩) 5 5)), (149, (.bool (!((2 == 2) && (((128 + (data.length : Int) + (target.size : Int) + sumX xs + (s.size : Int)) == (64 + by_)) && true))))), (119, (.bool (decide (ix < (xs.length : Int))))), (19, (.int .i64 ix)), (18, (.int .i64 by_)), (109, (.bool false)), (17, (.int .i64 ((data.length : Int) + (target.size : Int)))), (16, (.bool (sameX xs xs))), (15, (.int .i64 0)), (14, v1), (12, (ptr b3 0)), (61, (.bool (decide ((data.length : Int) > 4096)))), (43, (.bool false)), (11, (.int .i64 0)), (10, (.int .i64 2)), (9, (ptr b2 0)), (32, (.bool false)), (8, (ptr u1 0)), (7, (.bool true)), (3, (ptr b1 0)), (0, (.agg #[vn, (.int .i64 ino), (.int .i64 kind), (.int .i64 m), (.int .i64 u'), (.int .i64 gi'), vd, (.string target), vx, (.bool opq)])), (1, (.string s)), (2, (.int .i64 more))]) hfd (by kernel_rfl)
                              obtain ⟨e0, _⟩ := hdd
                              have hfd := Fr.add (t := 230) (v := (.int .i64 1)) hfd e0
                              exact G_val (v := (.bool true)) (w' := wd) hfd rfl (by kernel_rfl) (by kernel_rfl) (Le.refl _) rfl
                            · intro aq wd ld hfd hdd
                              have hfd := Fr.cast (s' := [(13, (.int .i64 1)), (204, (.bool (decide (lk3 > 0)))), (23, (.int .i64 j)), (21, (.int .i64 lk3)), (198, (.bool false)), (163, (.bool (kind != 1))), (22, (.int .i64 k2)), (20, (.slice (some ⟨b4, 0, none⟩) 5 5)), (149, (.bool (!((2 == 2) && (((128 + (data.length : Int) + (target.size : Int) + sumX xs + (s.size : Int)) == (64 + by_)) && true))))), (119, (.bool (decide (ix < (xs.length : Int))))), (19, (.int .i64 ix)), (18, (.int .i64 by_)), (109, (.bool false)), (17, (.int .i64 ((data.length : Int) + (target.size : Int)))), (16, (.bool (sameX xs xs))), (15, (.int .i64 0)), (14, v1), (12, (ptr b3 0)), (61, (.bool (decide ((data.length : Int) > 4096)))), (43, (.bool false)), (11, (.int .i64 0)), (10, (.int .i64 2)), (9, (ptr b2 0)), (32, (.bool false)), (8, (ptr u1 0)), (7, (.bool true)), (3, (ptr b1 0)), (0, (.agg #[vn, (.int .i64 ino), (.int .i64 kind), (.int .i64 m), (.int .i64 u'), (.int .i64 gi'), vd, (.string target), vx, (.bool opq)])), (1, (.string s)), (2, (.int .i64 more))]) hfd (by kernel_rfl)
                              obtain ⟨e1, _⟩ := hdd
                              have hfd := Fr.add (t := 231) (v := (.bool true)) hfd e1
                              exact G_val (v := (.bool true)) (w' := wd) hfd rfl (by kernel_rfl) (by kernel_rfl) (Le.refl _) rfl
                            · intro aq wd ld hfd hdd
                              have hfd := Fr.cast (s' := [(13, (.int .i64 1)), (204, (.bool (decide (lk3 > 0)))), (23, (.int .i64 j)), (21, (.int .i64 lk3)), (198, (.bool false)), (163, (.bool (kind != 1))), (22, (.int .i64 k2)), (20, (.slice (some ⟨b4, 0, none⟩) 5 5)), (149, (.bool (!((2 == 2) && (((128 + (data.length : Int) + (target.size : Int) + sumX xs + (s.size : Int)) == (64 + by_)) && true))))), (119, (.bool (decide (ix < (xs.length : Int))))), (19, (.int .i64 ix)), (18, (.int .i64 by_)), (109, (.bool false)), (17, (.int .i64 ((data.length : Int) + (target.size : Int)))), (16, (.bool (sameX xs xs))), (15, (.int .i64 0)), (14, v1), (12, (ptr b3 0)), (61, (.bool (decide ((data.length : Int) > 4096)))), (43, (.bool false)), (11, (.int .i64 0)), (10, (.int .i64 2)), (9, (ptr b2 0)), (32, (.bool false)), (8, (ptr u1 0)), (7, (.bool true)), (3, (ptr b1 0)), (0, (.agg #[vn, (.int .i64 ino), (.int .i64 kind), (.int .i64 m), (.int .i64 u'), (.int .i64 gi'), vd, (.string target), vx, (.bool opq)])), (1, (.string s)), (2, (.int .i64 more))]) hfd (by kernel_rfl)
                              obtain ⟨e2, _⟩ := hdd
                              have hfd := Fr.add (t := 232) (v := (.bool true)) hfd e2
                              exact G_val (v := (ptr u1 0)) (w' := wd) hfd rfl (by kernel_rfl) (by kernel_rfl) (Le.refl _) rfl
                            · intro aq wd ld hfd hdd
                              have hfd := Fr.cast (s' := [(13, (.int .i64 1)), (204, (.bool (decide (lk3 > 0)))), (23, (.int .i64 j)), (21, (.int .i64 lk3)), (198, (.bool false)), (163, (.bool (kind != 1))), (22, (.int .i64 k2)), (20, (.slice (some ⟨b4, 0, none⟩) 5 5)), (149, (.bool (!((2 == 2) && (((128 + (data.length : Int) + (target.size : Int) + sumX xs + (s.size : Int)) == (64 + by_)) && true))))), (119, (.bool (decide (ix < (xs.length : Int))))), (19, (.int .i64 ix)), (18, (.int .i64 by_)), (109, (.bool false)), (17, (.int .i64 ((data.length : Int) + (target.size : Int)))), (16, (.bool (sameX xs xs))), (15, (.int .i64 0)), (14, v1), (12, (ptr b3 0)), (61, (.bool (decide ((data.length : Int) > 4096)))), (43, (.bool false)), (11, (.int .i64 0)), (10, (.int .i64 2)), (9, (ptr b2 0)), (32, (.bool false)), (8, (ptr u1 0)), (7, (.bool true)), (3, (ptr b1 0)), (0, (.agg #[vn, (.int .i64 ino), (.int .i64 kind), (.int .i64 m), (.int .i64 u'), (.int .i64 gi'), vd, (.string target), vx, (.bool opq)])), (1, (.string s)), (2, (.int .i64 more))]) hfd (by kernel_rfl)
                              obtain ⟨e3, e2, _, _⟩ := hdd
                              have hfd := Fr.add (t := 233) (v := (ptr u1 0)) hfd e3
                              have hfd := Fr.add (t := 232) (v := (.bool true)) hfd e2
                              exact G_call (args := #[(ptr u1 0)]) (w := wd) hfd rfl (by kernel_rfl) (by kernel_rfl) (used_S u1 100 100000 3 ([(1, rootU [])]) _ _ _ _ (H.le ld) 1 64 rfl rfl (by decide)) fun v w' ⟨he, hl⟩ => ⟨hl, he⟩
                            · intro aq wd ld hfd hdd
                              have hfd := Fr.cast (s' := [(13, (.int .i64 1)), (204, (.bool (decide (lk3 > 0)))), (23, (.int .i64 j)), (21, (.int .i64 lk3)), (198, (.bool false)), (163, (.bool (kind != 1))), (22, (.int .i64 k2)), (20, (.slice (some ⟨b4, 0, none⟩) 5 5)), (149, (.bool (!((2 == 2) && (((128 + (data.length : Int) + (target.size : Int) + sumX xs + (s.size : Int)) == (64 + by_)) && true))))), (119, (.bool (decide (ix < (xs.length : Int))))), (19, (.int .i64 ix)), (18, (.int .i64 by_)), (109, (.bool false)), (17, (.int .i64 ((data.length : Int) + (target.size : Int)))), (16, (.bool (sameX xs xs))), (15, (.int .i64 0)), (14, v1), (12, (ptr b3 0)), (61, (.bool (decide ((data.length : Int) > 4096)))), (43, (.bool false)), (11, (.int .i64 0)), (10, (.int .i64 2)), (9, (ptr b2 0)), (32, (.bool false)), (8, (ptr u1 0)), (7, (.bool true)), (3, (ptr b1 0)), (0, (.agg #[vn, (.int .i64 ino), (.int .i64 kind), (.int .i64 m), (.int .i64 u'), (.int .i64 gi'), vd, (.string target), vx, (.bool opq)])), (1, (.string s)), (2, (.int .i64 more))]) hfd (by kernel_rfl)
                              obtain ⟨e2, _⟩ := hdd
                              have hfd := Fr.add (t := 232) (v := (.bool true)) hfd e2
                              exact G_val hfd rfl (by kernel_rfl) (load_ev (run_load_row ((H.le ld).blk 2) Try.underlying33 rfl (vs := [(.int .i64 1), (.int .i64 64)]) (by kernel_rfl) rfl) rfl rfl) (Le.refl _) rfl
                            intro aq9 w28 l12 hf3 fa3
                            obtain ⟨_, _, qv5, _, qv6, qv7, _⟩ := fa3
                            have hf3 := Fr.cast (s' := [(13, (.int .i64 1)), (204, (.bool (decide (lk3 > 0)))), (23, (.int .i64 j)), (21, (.int .i64 lk3)), (198, (.bool false)), (163, (.bool (kind != 1))), (22, (.int .i64 k2)), (20, (.slice (some ⟨b4, 0, none⟩) 5 5)), (149, (.bool (!((2 == 2) && (((128 + (data.length : Int) + (target.size : Int) + sumX xs + (s.size : Int)) == (64 + by_)) && true))))), (119, (.bool (decide (ix < (xs.length : Int))))), (19, (.int .i64 ix)), (18, (.int .i64 by_)), (109, (.bool false)), (17, (.int .i64 ((data.length : Int) + (target.size : Int)))), (16, (.bool (sameX xs xs))), (15, (.int .i64 0)), (14, v1), (12, (ptr b3 0)), (61, (.bool (decide ((data.length : Int) > 4096)))), (43, (.bool false)), (11, (.int .i64 0)), (10, (.int .i64 2)), (9, (ptr b2 0)), (32, (.bool false)), (8, (ptr u1 0)), (7, (.bool true)), (3, (ptr b1 0)), (0, (.agg #[vn, (.int .i64 ino), (.int .i64 kind), (.int .i64 m), (.int .i64 u'), (.int .i64 gi'), vd, (.string target), vx, (.bool opq)])), (1, (.string s)), (2, (.int .i64 more))]) hf3 (by kernel_rfl)
                            have hf3 := Fr.add (t := 232) (v := (.bool true)) hf3 qv5
                            have hf3 := Fr.add (t := 234) (v := (.agg #[(.int .i64 1), (.int .i64 64)])) hf3 qv6
                            have hf3 := Fr.add (t := 235) (v := (.agg #[(.int .i64 1), (.int .i64 64)])) hf3 qv7
                            replace H := H.le l12
                            refine (?_ : wpR _ _ _ _ [(235, (.agg #[(.int .i64 1), (.int .i64 64)])), (234, (.agg #[(.int .i64 1), (.int .i64 64)])), (232, (.bool true)), (13, (.int .i64 1)), (204, (.bool (decide (lk3 > 0)))), (23, (.int .i64 j)), (21, (.int .i64 lk3)), (198, (.bool false)), (163, (.bool (kind != 1))), (22, (.int .i64 k2)), (20, (.slice (some ⟨b4, 0, none⟩) 5 5)), (149, (.bool (!((2 == 2) && (((128 + (data.length : Int) + (target.size : Int) + sumX xs + (s.size : Int)) == (64 + by_)) && true))))), (119, (.bool (decide (ix < (xs.length : Int))))), (19, (.int .i64 ix)), (18, (.int .i64 by_)), (109, (.bool false)), (17, (.int .i64 ((data.length : Int) + (target.size : Int)))), (16, (.bool (sameX xs xs))), (15, (.int .i64 0)), (14, v1), (12, (ptr b3 0)), (61, (.bool (decide ((data.length : Int) > 4096)))), (43, (.bool false)), (11, (.int .i64 0)), (10, (.int .i64 2)), (9, (ptr b2 0)), (32, (.bool false)), (8, (ptr u1 0)), (7, (.bool true)), (3, (ptr b1 0)), (0, (.agg #[vn, (.int .i64 ino), (.int .i64 kind), (.int .i64 m), (.int .i64 u'), (.int .i64 gi'), vd, (.string target), vx, (.bool opq)])), (1, (.string s)), (2, (.int .i64 more))] _ _) aq9 (hf3.sub ⟨rfl, rfl, rfl, rfl, rfl, rfl, rfl, rfl, rfl, rfl, rfl, rfl, rfl, rfl, rfl, rfl, rfl, rfl, rfl, rfl, rfl, rfl, rfl, rfl, rfl, rfl, rfl, rfl, rfl, rfl, rfl, rfl, rfl, trivial⟩)
                            refine Rw (.bool ((1 == 1) && ((64 == 64) && true))) w28 (X_eql_struct rfl rfl rfl Try.underlying33 (by kernel_rfl) (by kernel_rfl) (eqF_int rfl Try.underlying3 (by kernel_rfl) rfl rfl (eqF_int rfl Try.underlying3 (by kernel_rfl) rfl rfl (eqF_nil)))) ?_
                            refine Rv (.bool ((1 == 1) && ((64 == 64) && true))) w28 ?_
                            refine Rv (.bool ((1 == 1) && ((64 == 64) && true))) w28 ?_
                            refine wpR_nil ?_
                            refine E_then_normal ?_
                            refine C_ret ?_
                            refine E_ret (res_one rfl rfl) ⟨_, rfl, ?_⟩
                            exact ⟨congrArg Value.bool (by first | (simp; done) | (simp; omega) | (simp_all; done) | (simp_all; omega)), H.toLe⟩
                        · have d12 : ¬ j < 5 := of_decide_eq_false c12
                          refine Rw (.bool false) w24 (eq_bool (by kernel_rfl) c12) ?_
                          iterate 2 refine Rs ?_
                          refine Rv (.bool false) w24 ?_
                          refine wpR_nil ?_
                          refine E_then_normal ?_
                          refine C_false rfl ?_
                          refine C_exit ?_
                          refine E_then_exit ?_
                          refine E_then_exit ?_
                          refine E_block_here ?_
                          refine E_then_normal ?_
                          refine C_seq ?_
                          refine Cs [(204, (.bool false)), (23, (.int .i64 j)), (21, (.int .i64 lk3)), (198, (.bool false)), (163, (.bool (kind != 1))), (22, (.int .i64 k2)), (20, (.slice (some ⟨b4, 0, none⟩) 5 5)), (149, (.bool (!((2 == 2) && (((128 + (data.length : Int) + (target.size : Int) + sumX xs + (s.size : Int)) == (64 + by_)) && true))))), (119, (.bool (decide (ix < (xs.length : Int))))), (19, (.int .i64 ix)), (18, (.int .i64 by_)), (109, (.bool false)), (17, (.int .i64 ((data.length : Int) + (target.size : Int)))), (16, (.bool (sameX xs xs))), (15, (.int .i64 0)), (14, v1), (13, (.int .i64 0)), (12, (ptr b3 0)), (61, (.bool (decide ((data.length : Int) > 4096)))), (43, (.bool false)), (11, (.int .i64 0)), (10, (.int .i64 2)), (9, (ptr b2 0)), (32, (.bool false)), (8, (ptr u1 0)), (7, (.bool true)), (3, (ptr b1 0)), (0, (.agg #[vn, (.int .i64 ino), (.int .i64 kind), (.int .i64 m), (.int .i64 u'), (.int .i64 gi'), vd, (.string target), vx, (.bool opq)])), (1, (.string s)), (2, (.int .i64 more))] ?_
                          have hR0 : R = [] := hR.fin (by omega)
                          subst hR0
                          refine C_region ?_
                          refine Rv (ptr u1 0) w24 ?_
                          refine Rv (.int .i64 2) w24 ?_
                          refine Rc #[(ptr u1 0), (.int .i64 2)] w24 (statno_S u1 100 100000 3 ([(1, rootU [])]) 2 _ _ _ _ H rfl (by decide)) ?_
                          rintro _ w29 ⟨rfl, l13⟩
                          replace H := H.le l13
                          refine Rv (.tuple #[(.agg #[(.int .i64 0), (.int .i64 0), (.int .i64 0), (.int .i64 0), (.int .i64 0), (.int .i64 0)]), (.int .i64 1)]) w29 ?_
                          refine Rv (.agg #[(.int .i64 0), (.int .i64 0), (.int .i64 0), (.int .i64 0), (.int .i64 0), (.int .i64 0)]) w29 ?_
                          refine Rv (.int .i64 1) w29 ?_
                          refine Rv (.int .i64 1) w29 ?_
                          refine wpR_nil ?_
                          refine E_then_normal ?_
                          refine C_seq ?_
                          refine Cs [(13, (.int .i64 1)), (204, (.bool false)), (23, (.int .i64 j)), (21, (.int .i64 lk3)), (198, (.bool false)), (163, (.bool (kind != 1))), (22, (.int .i64 k2)), (20, (.slice (some ⟨b4, 0, none⟩) 5 5)), (149, (.bool (!((2 == 2) && (((128 + (data.length : Int) + (target.size : Int) + sumX xs + (s.size : Int)) == (64 + by_)) && true))))), (119, (.bool (decide (ix < (xs.length : Int))))), (19, (.int .i64 ix)), (18, (.int .i64 by_)), (109, (.bool false)), (17, (.int .i64 ((data.length : Int) + (target.size : Int)))), (16, (.bool (sameX xs xs))), (15, (.int .i64 0)), (14, v1), (12, (ptr b3 0)), (61, (.bool (decide ((data.length : Int) > 4096)))), (43, (.bool false)), (11, (.int .i64 0)), (10, (.int .i64 2)), (9, (ptr b2 0)), (32, (.bool false)), (8, (ptr u1 0)), (7, (.bool true)), (3, (ptr b1 0)), (0, (.agg #[vn, (.int .i64 ino), (.int .i64 kind), (.int .i64 m), (.int .i64 u'), (.int .i64 gi'), vd, (.string target), vx, (.bool opq)])), (1, (.string s)), (2, (.int .i64 more))] ?_
                          refine C_drawT 6 [fun _ v => v = (.int .i64 1), fun _ v => v = (.bool true), fun _ v => v = (.bool true), fun _ v => v = (ptr u1 0), fun _ v => v = (.agg #[(.int .i64 1), (.int .i64 64)]), fun _ v => v = (.agg #[(.int .i64 1), (.int .i64 64)])] (by kernel_rfl) (by kernel_rfl) (by kernel_rfl) (by kernel_rfl) ⟨stab_exact _, stab_exact _, stab_exact _, stab_exact _, stab_exact _, stab_exact _, trivial⟩ ⟨?_, ?_, ?_, ?_, ?_, ?_, trivial⟩ ?_
                          · intro aq wd ld hfd hdd
                            have hfd := Fr.cast (s' := [(13, (.int .i64 1)), (204, (.bool false)), (23, (.int .i64 j)), (21, (.int .i64 lk3)), (198, (.bool false)), (163, (.bool (kind != 1))), (22, (.int .i64 k2)), (20, (.slice (some ⟨b4, 0, none⟩) 5 5)), (149, (.bool (!((2 == 2) && (((128 + (data.length : Int) + (target.size : Int) + sumX xs + (s.size : Int)) == (64 + by_)) && true))))), (119, (.bool (decide (ix < (xs.length : Int))))), (19, (.int .i64 ix)), (18, (.int .i64 by_)), (109, (.bool false)), (17, (.int .i64 ((data.length : Int) + (target.size : Int)))), (16, (.bool (sameX xs xs))), (15, (.int .i64 0)), (14, v1), (12, (ptr b3 0)), (61, (.bool (decide ((data.length : Int) > 4096)))), (43, (.bool false)), (11, (.int .i64 0)), (10, (.int .i64 2)), (9, (ptr b2 0)), (32, (.bool false)), (8, (ptr u1 0)), (7, (.bool true)), (3, (ptr b1 0)), (0, (.agg #[vn, (.int .i64 ino), (.int .i64 kind), (.int .i64 m), (.int .i64 u'), (.int .i64 gi'), vd, (.string target), vx, (.bool opq)])), (1, (.string s)), (2, (.int .i64 more))]) hfd (by kernel_rfl)
                            exact G_val (v := (.int .i64 1)) (w' := wd) hfd rfl (by kernel_rfl) (by kernel_rfl) (Le.refl _) rfl
                          · intro aq wd ld hfd hdd
                            have hfd := Fr.cast (s' := [(13, (.int .i64 1)), (204, (.bool false)), (23, (.int .i64 j)), (21, (.int .i64 lk3)), (198, (.bool false)), (163, (.bool (kind != 1))), (22, (.int .i64 k2)), (20, (.slice (some ⟨b4, 0, none⟩) 5 5)), (149, (.bool (!((2 == 2) && (((128 + (data.length : Int) + (target.size : Int) + sumX xs + (s.size : Int)) == (64 + by_)) && true))))), (119, (.bool (decide (ix < (xs.length : Int))))), (19, (.int .i64 ix)), (18, (.int .i64 by_)), (109, (.bool false)), (17, (.int .i64 ((data.length : Int) + (target.size : Int)))), (16, (.bool (sameX xs xs))), (15, (.int .i64 0)), (14, v1), (12, (ptr b3 0)), (61, (.bool (decide ((data.length : Int) > 4096)))), (43, (.bool false)), (11, (.int .i64 0)), (10, (.int .i64 2)), (9, (ptr b2 0)), (32, (.bool false)), (8, (ptr u1 0)), (7, (.bool true)), (3, (ptr b1 0)), (0, (.agg #[vn, (.int .i64 ino), (.int .i64 kind), (.int .i64 m), (.int .i64 u'), (.int .i64 gi'), vd, (.string target), vx, (.bool opq)])), (1, (.string s)), (2, (.int .i64 more))]) hfd (by kernel_rfl)
                            obtain ⟨e0, _⟩ := hdd
                            have hfd := Fr.add (t := 230) (v := (.int .i64 1)) hfd e0
                            exact G_val (v := (.bool true)) (w' := wd) hfd rfl (by kernel_rfl) (by kernel_rfl) (Le.refl _) rfl
                          · intro aq wd ld hfd hdd
                            have hfd := Fr.cast (s' := [(13, (.int .i64 1)), (204, (.bool false)), (23, (.int .i64 j)), (21, (.int .i64 lk3)), (198, (.bool false)), (163, (.bool (kind != 1))), (22, (.int .i64 k2)), (20, (.slice (some ⟨b4, 0, none⟩) 5 5)), (149, (.bool (!((2 == 2) && (((128 + (data.length : Int) + (target.size : Int) + sumX xs + (s.size : Int)) == (64 + by_)) && true))))), (119, (.bool (decide (ix < (xs.length : Int))))), (19, (.int .i64 ix)), (18, (.int .i64 by_)), (109, (.bool false)), (17, (.int .i64 ((data.length : Int) + (target.size : Int)))), (16, (.bool (sameX xs xs))), (15, (.int .i64 0)), (14, v1), (12, (ptr b3 0)), (61, (.bool (decide ((data.length : Int) > 4096)))), (43, (.bool false)), (11, (.int .i64 0)), (10, (.int .i64 2)), (9, (ptr b2 0)), (32, (.bool false)), (8, (ptr u1 0)), (7, (.bool true)), (3, (ptr b1 0)), (0, (.agg #[vn, (.int .i64 ino), (.int .i64 kind), (.int .i64 m), (.int .i64 u'), (.int .i64 gi'), vd, (.string target), vx, (.bool opq)])), (1, (.string s)), (2, (.int .i64 more))]) hfd (by kernel_rfl)
                            obtain ⟨e1, _⟩ := hdd
                            have hfd := Fr.add (t := 231) (v := (.bool true)) hfd e1
                            exact G_val (v := (.bool true)) (w' := wd) hfd rfl (by kernel_rfl) (by kernel_rfl) (Le.refl _) rfl
                          · intro aq wd ld hfd hdd
                            have hfd := Fr.cast (s' := [(13, (.int .i64 1)), (204, (.bool false)), (23, (.int .i64 j)), (21, (.int .i64 lk3)), (198, (.bool false)), (163, (.bool (kind != 1))), (22, (.int .i64 k2)), (20, (.slice (some ⟨b4, 0, none⟩) 5 5)), (149, (.bool (!((2 == 2) && (((128 + (data.length : Int) + (target.size : Int) + sumX xs + (s.size : Int)) == (64 + by_)) && true))))), (119, (.bool (decide (ix < (xs.length : Int))))), (19, (.int .i64 ix)), (18, (.int .i64 by_)), (109, (.bool false)), (17, (.int .i64 ((data.length : Int) + (target.size : Int)))), (16, (.bool (sameX xs xs))), (15, (.int .i64 0)), (14, v1), (12, (ptr b3 0)), (61, (.bool (decide ((data.length : Int) > 4096)))), (43, (.bool false)), (11, (.int .i64 0)), (10, (.int .i64 2)), (9, (ptr b2 0)), (32, (.bool false)), (8, (ptr u1 0)), (7, (.bool true)), (3, (ptr b1 0)), (0, (.agg #[vn, (.int .i64 ino), (.int .i64 kind), (.int .i64 m), (.int .i64 u'), (.int .i64 gi'), vd, (.string target), vx, (.bool opq)])), (1, (.string s)), (2, (.int .i64 more))]) hfd (by kernel_rfl)
                            obtain ⟨e2, _⟩ := hdd
                            have hfd := Fr.add (t := 232) (v := (.bool true)) hfd e2
                            exact G_val (v := (ptr u1 0)) (w' := wd) hfd rfl (by kernel_rfl) (by kernel_rfl) (Le.refl _) rfl
                          · intro aq wd ld hfd hdd
                            have hfd := Fr.cast (s' := [(13, (.int .i64 1)), (204, (.bool false)), (23, (.int .i64 j)), (21, (.int .i64 lk3)), (198, (.bool false)), (163, (.bool (kind != 1))), (22, (.int .i64 k2)), (20, (.slice (some ⟨b4, 0, none⟩) 5 5)), (149, (.bool (!((2 == 2) && (((128 + (data.length : Int) + (target.size : Int) + sumX xs + (s.size : Int)) == (64 + by_)) && true))))), (119, (.bool (decide (ix < (xs.length : Int))))), (19, (.int .i64 ix)), (18, (.int .i64 by_)), (109, (.bool false)), (17, (.int .i64 ((data.length : Int) + (target.size : Int)))), (16, (.bool (sameX xs xs))), (15, (.int .i64 0)), (14, v1), (12, (ptr b3 0)), (61, (.bool (decide ((data.length : Int) > 4096)))), (43, (.bool false)), (11, (.int .i64 0)), (10, (.int .i64 2)), (9, (ptr b2 0)), (32, (.bool false)), (8, (ptr u1 0)), (7, (.bool true)), (3, (ptr b1 0)), (0, (.agg #[vn, (.int .i64 ino), (.int .i64 kind), (.int .i64 m), (.int .i64 u'), (.int .i64 gi'), vd, (.string target), vx, (.bool opq)])), (1, (.string s)), (2, (.int .i64 more))]) hfd (by kernel_rfl)
                            obtain ⟨e3, e2, _, _⟩ := hdd
                            have hfd := Fr.add (t := 233) (v := (ptr u1 0)) hfd e3
                            have hfd := Fr.add (t := 232) (v := (.bool true)) hfd e2
                            exact G_call (args := #[(ptr u1 0)]) (w := wd) hfd rfl (by kernel_rfl) (by kernel_rfl) (used_S u1 100 100000 3 ([(1, rootU [])]) _ _ _ _ (H.le ld) 1 64 rfl rfl (by decide)) fun v w' ⟨he, hl⟩ => ⟨hl, he⟩
                          · intro aq wd ld hfd hdd
                            have hfd := Fr.cast (s' := [(13, (.int .i64 1)), (204, (.bool false)), (23, (.int .i64 j)), (21, (.int .i64 lk3)), (198, (.bool false)), (163, (.bool (kind != 1))), (22, (.int .i64 k2)), (20, (.slice (some ⟨b4, 0, none⟩) 5 5)), (149, (.bool (!((2 == 2) && (((128 + (data.length : Int) + (target.size : Int) + sumX xs + (s.size : Int)) == (64 + by_)) && true))))), (119, (.bool (decide (ix < (xs.length : Int))))), (19, (.int .i64 ix)), (18, (.int .i64 by_)), (109, (.bool false)), (17, (.int .i64 ((data.length : Int) + (target.size : Int)))), (16, (.bool (sameX xs xs))), (15, (.int .i64 0)), (14, v1), (12, (ptr b3 0)), (61, (.bool (decide ((data.length : Int) > 4096)))), (43, (.bool false)), (11, (.int .i64 0)), (10, (.int .i64 2)), (9, (ptr b2 0)), (32, (.bool false)), (8, (ptr u1 0)), (7, (.bool true)), (3, (ptr b1 0)), (0, (.agg #[vn, (.int .i64 ino), (.int .i64 kind), (.int .i64 m), (.int .i64 u'), (.int .i64 gi'), vd, (.string target), vx, (.bool opq)])), (1, (.string s)), (2, (.int .i64 more))]) hfd (by kernel_rfl)
                            obtain ⟨e2, _⟩ := hdd
                            have hfd := Fr.add (t := 232) (v := (.bool true)) hfd e2
                            exact G_val hfd rfl (by kernel_rfl) (load_ev (run_load_row ((H.le ld).blk 2) Try.underlying33 rfl (vs := [(.int .i64 1), (.int .i64 64)]) (by kernel_rfl) rfl) rfl rfl) (Le.refl _) rfl
                          intro aq10 w30 l14 hf4 fa4
                          obtain ⟨_, _, qv8, _, qv9, qv10, _⟩ := fa4
                          have hf4 := Fr.cast (s' := [(13, (.int .i64 1)), (204, (.bool false)), (23, (.int .i64 j)), (21, (.int .i64 lk3)), (198, (.bool false)), (163, (.bool (kind != 1))), (22, (.int .i64 k2)), (20, (.slice (some ⟨b4, 0, none⟩) 5 5)), (149, (.bool (!((2 == 2) && (((128 + (data.length : Int) + (target.size : Int) + sumX xs + (s.size : Int)) == (64 + by_)) && true))))), (119, (.bool (decide (ix < (xs.length : Int))))), (19, (.int .i64 ix)), (18, (.int .i64 by_)), (109, (.bool false)), (17, (.int .i64 ((data.length : Int) + (target.size : Int)))), (16, (.bool (sameX xs xs))), (15, (.int .i64 0)), (14, v1), (12, (ptr b3 0)), (61, (.bool (decide ((data.length : Int) > 4096)))), (43, (.bool false)), (11, (.int .i64 0)), (10, (.int .i64 2)), (9, (ptr b2 0)), (32, (.bool false)), (8, (ptr u1 0)), (7, (.bool true)), (3, (ptr b1 0)), (0, (.agg #[vn, (.int .i64 ino), (.int .i64 kind), (.int .i64 m), (.int .i64 u'), (.int .i64 gi'), vd, (.string target), vx, (.bool opq)])), (1, (.string s)), (2, (.int .i64 more))]) hf4 (by kernel_rfl)
                          have hf4 := Fr.add (t := 232) (v := (.bool true)) hf4 qv8
                          have hf4 := Fr.add (t := 234) (v := (.agg #[(.int .i64 1), (.int .i64 64)])) hf4 qv9
                          have hf4 := Fr.add (t := 235) (v := (.agg #[(.int .i64 1), (.int .i64 64)])) hf4 qv10
                          replace H := H.le l14
                          refine (?_ : wpR _ _ _ _ [(235, (.agg #[(.int .i64 1), (.int .i64 64)])), (234, (.agg #[(.int .i64 1), (.int .i64 64)])), (232, (.bool true)), (13, (.int .i64 1)), (204, (.bool false)), (23, (.int .i64 j)), (21, (.int .i64 lk3)), (198, (.bool false)), (163, (.bool (kind != 1))), (22, (.int .i64 k2)), (20, (.slice (some ⟨b4, 0, none⟩) 5 5)), (149, (.bool (!((2 == 2) && (((128 + (data.length : Int) + (target.size : Int) + sumX xs + (s.size : Int)) == (64 + by_)) && true))))), (119, (.bool (decide (ix < (xs.length : Int))))), (19, (.int .i64 ix)), (18, (.int .i64 by_)), (109, (.bool false)), (17, (.int .i64 ((data.length : Int) + (target.size : Int)))), (16, (.bool (sameX xs xs))), (15, (.int .i64 0)), (14, v1), (12, (ptr b3 0)), (61, (.bool (decide ((data.length : Int) > 4096)))), (43, (.bool false)), (11, (.int .i64 0)), (10, (.int .i64 2)), (9, (ptr b2 0)), (32, (.bool false)), (8, (ptr u1 0)), (7, (.bool true)), (3, (ptr b1 0)), (0, (.agg #[vn, (.int .i64 ino), (.int .i64 kind), (.int .i64 m), (.int .i64 u'), (.int .i64 gi'), vd, (.string target), vx, (.bool opq)])), (1, (.string s)), (2, (.int .i64 more))] _ _) aq10 (hf4.sub ⟨rfl, rfl, rfl, rfl, rfl, rfl, rfl, rfl, rfl, rfl, rfl, rfl, rfl, rfl, rfl, rfl, rfl, rfl, rfl, rfl, rfl, rfl, rfl, rfl, rfl, rfl, rfl, rfl, rfl, rfl, rfl, rfl, rfl, trivial⟩)
                          refine Rw (.bool ((1 == 1) && ((64 == 64) && true))) w30 (X_eql_struct rfl rfl rfl Try.underlying33 (by kernel_rfl) (by kernel_rfl) (eqF_int rfl Try.underlying3 (by kernel_rfl) rfl rfl (eqF_int rfl Try.underlying3 (by kernel_rfl) rfl rfl (eqF_nil)))) ?_
                          refine Rv (.bool ((1 == 1) && ((64 == 64) && true))) w30 ?_
                          refine Rv (.bool ((1 == 1) && ((64 == 64) && true))) w30 ?_
                          refine wpR_nil ?_
                          refine E_then_normal ?_
                          refine C_ret ?_
                          refine E_ret (res_one rfl rfl) ⟨_, rfl, ?_⟩
                          exact ⟨congrArg Value.bool (by first | (simp; done) | (simp; omega) | (simp_all; done) | (simp_all; omega)), H.toLe⟩
                  · have d8 : ¬ k2 < 5 := of_decide_eq_false c8
                    refine Rw (.bool false) w19 (eq_bool (by kernel_rfl) c8) ?_
                    iterate 3 refine Rs ?_
                    refine Rv (.bool false) w19 ?_
                    refine wpR_nil ?_
                    refine E_then_normal ?_
                    refine C_false rfl ?_
                    refine C_exit ?_
                    refine E_then_exit ?_
                    refine E_then_exit ?_
                    refine E_block_here ?_
                    refine E_then_normal ?_
                    refine C_seq ?_
                    refine Cs [(163, (.bool false)), (22, (.int .i64 k2)), (21, (.int .i64 lk)), (20, (.slice (some ⟨b4, 0, none⟩) 5 5)), (149, (.bool (!((2 == 2) && (((128 + (data.length : Int) + (target.size : Int) + sumX xs + (s.size : Int)) == (64 + by_)) && true))))), (119, (.bool (decide (ix < (xs.length : Int))))), (19, (.int .i64 ix)), (18, (.int .i64 by_)), (109, (.bool false)), (17, (.int .i64 ((data.length : Int) + (target.size : Int)))), (16, (.bool (sameX xs xs))), (15, (.int .i64 0)), (14, v1), (13, (.int .i64 0)), (12, (ptr b3 0)), (61, (.bool (decide ((data.length : Int) > 4096)))), (43, (.bool false)), (11, (.int .i64 0)), (10, (.int .i64 2)), (9, (ptr b2 0)), (32, (.bool false)), (8, (ptr u1 0)), (7, (.bool true)), (3, (ptr b1 0)), (0, (.agg #[vn, (.int .i64 ino), (.int .i64 kind), (.int .i64 m), (.int .i64 u'), (.int .i64 gi'), vd, (.string target), vx, (.bool opq)])), (1, (.string s)), (2, (.int .i64 more))] ?_
                    refine C_region ?_
                    refine Rv (ptr u1 0) w19 ?_
                    refine Rv (.int .i64 2) w19 ?_
                    refine Rc #[(ptr u1 0), (.int .i64 2)] w19 (stat_S u1 100 100000 3 (stL ⟨kind, m, u', gi', data, target, xs⟩ E) 2 ({ newU ⟨kind, m, u', gi', data, target, xs⟩ 1 with links := (E.length : Int) }) _ _ _ _ (H.pick 1) rfl (by show data.length + target.size + 0 ≤ _; omega) (by decide)) ?_
                    rintro _ w31 ⟨rfl, l15⟩
                    replace H := H.le l15
                    refine Rv (.tuple #[(.agg #[(.int .i64 kind), (.int .i64 m), (.int .i64 u'), (.int .i64 gi'), (.int .i64 (E.length : Int)), (.int .i64 ((data.length : Int) + (target.size : Int) + ((0 : Nat) : Int)))]), (.int .i64 0)]) w31 ?_
                    refine Rv (.agg #[(.int .i64 kind), (.int .i64 m), (.int .i64 u'), (.int .i64 gi'), (.int .i64 (E.length : Int)), (.int .i64 ((data.length : Int) + (target.size : Int) + ((0 : Nat) : Int)))]) w31 ?_
                    refine Rv (.int .i64 0) w31 ?_
                    refine S_store (H.blk 0) rfl rfl rfl rfl rfl (by kernel_rfl) rfl (Nat.le_of_ble_eq_true rfl) #[(.int .i64 kind), (.int .i64 m), (.int .i64 u'), (.int .i64 gi'), (.int .i64 (E.length : Int)), (.int .i64 ((data.length : Int) + (target.size : Int) + ((0 : Nat) : Int)))] rfl fun w32 u5 => ?_
                    replace H := H.upd 0 u5
                    refine wpR_nil ?_
                    refine E_then_normal ?_
                    refine C_seq ?_
                    refine C_seq ?_
                    refine Cs [(163, (.bool false)), (22, (.int .i64 k2)), (21, (.int .i64 lk)), (20, (.slice (some ⟨b4, 0, none⟩) 5 5)), (149, (.bool (!((2 == 2) && (((128 + (data.length : Int) + (target.size : Int) + sumX xs + (s.size : Int)) == (64 + by_)) && true))))), (119, (.bool (decide (ix < (xs.length : Int))))), (19, (.int .i64 ix)), (18, (.int .i64 by_)), (109, (.bool false)), (17, (.int .i64 ((data.length : Int) + (target.size : Int)))), (16, (.bool (sameX xs xs))), (15, (.int .i64 0)), (14, v1), (13, (.int .i64 0)), (12, (ptr b3 0)), (61, (.bool (decide ((data.length : Int) > 4096)))), (43, (.bool false)), (11, (.int .i64 0)), (10, (.int .i64 2)), (9, (ptr b2 0)), (32, (.bool false)), (8, (ptr u1 0)), (7, (.bool true)), (3, (ptr b1 0)), (0, (.agg #[vn, (.int .i64 ino), (.int .i64 kind), (.int .i64 m), (.int .i64 u'), (.int .i64 gi'), vd, (.string target), vx, (.bool opq)])), (1, (.string s)), (2, (.int .i64 more))] ?_
                    refine C_region ?_
                    refine Rv (ptr b3 4) w32 ?_
                    refine S_load (run_load_one (H.blk 0) Try.underlying3 rfl rfl) rfl rfl rfl rfl rfl ?_
                    refine Rv (.int .i64 lk) w32 ?_
                    refine Rw (.int .i64 (1 + lk)) w32 (eq_int (by kernel_rfl) (wrap64_in (by first | decide | omega | exact nm_size (by omega) (by omega) | (simp; omega)) (by first | decide | omega | exact nm_size (by omega) (by omega) | (simp; omega)))) ?_
                    refine Rv (.bool ((E.length : Int) != (1 + lk))) w32 ?_
                    rcases Bool.eq_false_or_eq_true ((E.length : Int) != (1 + lk)) with c15 | c15
                    · have d15 : (E.length : Int) ≠ (1 + lk) := bne_iff_ne.1 c15
                      refine Rw (.bool true) w32 (eq_bool (by kernel_rfl) c15) ?_
                      iterate 4 refine Rs ?_
                      refine Rv (.bool true) w32 ?_
                      refine wpR_nil ?_
                      refine E_then_normal ?_
                      refine C_true rfl ?_
                      refine C_seq ?_
                      refine Cs [(198, (.bool true)), (163, (.bool false)), (22, (.int .i64 k2)), (21, (.int .i64 lk)), (20, (.slice (some ⟨b4, 0, none⟩) 5 5)), (149, (.bool (!((2 == 2) && (((128 + (data.length : Int) + (target.size : Int) + sumX xs + (s.size : Int)) == (64 + by_)) && true))))), (119, (.bool (decide (ix < (xs.length : Int))))), (19, (.int .i64 ix)), (18, (.int .i64 by_)), (109, (.bool false)), (17, (.int .i64 ((data.length : Int) + (target.size : Int)))), (16, (.bool (sameX xs xs))), (15, (.int .i64 0)), (14, v1), (13, (.int .i64 0)), (12, (ptr b3 0)), (61, (.bool (decide ((data.length : Int) > 4096)))), (43, (.bool false)), (11, (.int .i64 0)), (10, (.int .i64 2)), (9, (ptr b2 0)), (32, (.bool false)), (8, (ptr u1 0)), (7, (.bool true)), (3, (ptr b1 0)), (0, (.agg #[vn, (.int .i64 ino), (.int .i64 kind), (.int .i64 m), (.int .i64 u'), (.int .i64 gi'), vd, (.string target), vx, (.bool opq)])), (1, (.string s)), (2, (.int .i64 more))] ?_
                      refine C_region ?_
                      refine Rv (.bool false) w32 ?_
                      refine wpR_nil ?_
                      refine E_then_normal ?_
                      refine C_ret ?_
                      refine E_then_ret ?_
                      refine E_ret (res_one rfl rfl) ⟨_, rfl, ?_⟩
                      exfalso; first | omega | (simp_all; done) | (simp_all; omega) | (revert c15; simp [sameX_refl]; done) | (revert c15; simp [sameX_refl]; omega)
                    · have d15 : (E.length : Int) = (1 + lk) := bne_eq_false_iff_eq.1 c15
                      refine Rw (.bool false) w32 (eq_bool (by kernel_rfl) c15) ?_
                      refine Rv (ptr u1 0) w32 ?_
                      refine Rv (.string s) w32 ?_
                      replace H := H.pick 1
                      refine Rc #[(ptr u1 0), (.int .i64 1), (.string s)] w32 (remove_S u1 100 100000 3 (stL ⟨kind, m, u', gi', data, target, xs⟩ E) 1 s _ _ _ _ H 0 (stR ⟨kind, m, u', gi', data, target, xs⟩ (delK E s)) (rmL hE2.get) (rmLS hE2.nodup hE2.get) (by decide) (by first | decide | omega | exact nm_size (by omega) (by omega) | (simp; omega)) (hexL (by omega) (fun v hv => by rw [hE2.get] at hv; exact (Option.some.inj hv).symm))) ?_
                      rintro _ w33 ⟨g8, m10, Hn, rfl⟩
                      replace H := Hn
                      clear Hn
                      refine Rv (.bool false) w33 ?_
                      refine Rv (.bool false) w33 ?_
                      refine wpR_nil ?_
                      refine E_then_normal ?_
                      refine C_false rfl ?_
                      refine C_skip ?_
                      refine E_then_normal ?_
                      refine C_seq ?_
                      refine C_seq ?_
                      refine Cs [(198, (.bool false)), (163, (.bool false)), (22, (.int .i64 k2)), (21, (.int .i64 lk)), (20, (.slice (some ⟨b4, 0, none⟩) 5 5)), (149, (.bool (!((2 == 2) && (((128 + (data.length : Int) + (target.size : Int) + sumX xs + (s.size : Int)) == (64 + by_)) && true))))), (119, (.bool (decide (ix < (xs.length : Int))))), (19, (.int .i64 ix)), (18, (.int .i64 by_)), (109, (.bool false)), (17, (.int .i64 ((data.length : Int) + (target.size : Int)))), (16, (.bool (sameX xs xs))), (15, (.int .i64 0)), (14, v1), (13, (.int .i64 0)), (12, (ptr b3 0)), (61, (.bool (decide ((data.length : Int) > 4096)))), (43, (.bool false)), (11, (.int .i64 0)), (10, (.int .i64 2)), (9, (ptr b2 0)), (32, (.bool false)), (8, (ptr u1 0)), (7, (.bool true)), (3, (ptr b1 0)), (0, (.agg #[vn, (.int .i64 ino), (.int .i64 kind), (.int .i64 m), (.int .i64 u'), (.int .i64 gi'), vd, (.string target), vx, (.bool opq)])), (1, (.string s)), (2, (.int .i64 more))] ?_
                      refine C_region ?_
                      refine Rv (.int .i64 0) w33 ?_
                      refine wpR_nil ?_
                      refine E_then_normal ?_
                      refine C_block ?_
                      refine C_loop (ι := Int × Int × List (ByteArray × Int)) (fun (i : Int × Int × List (ByteArray × Int)) => match i with | (j, lk3, R) => [(23, (.int .i64 j)), (21, (.int .i64 lk3)), (198, (.bool false)), (163, (.bool false)), (22, (.int .i64 k2)), (20, (.slice (some ⟨b4, 0, none⟩) 5 5)), (149, (.bool (!((2 == 2) && (((128 + (data.length : Int) + (target.size : Int) + sumX xs + (s.size : Int)) == (64 + by_)) && true))))), (119, (.bool (decide (ix < (xs.length : Int))))), (19, (.int .i64 ix)), (18, (.int .i64 by_)), (109, (.bool false)), (17, (.int .i64 ((data.length : Int) + (target.size : Int)))), (16, (.bool (sameX xs xs))), (15, (.int .i64 0)), (14, v1), (13, (.int .i64 0)), (12, (ptr b3 0)), (61, (.bool (decide ((data.length : Int) > 4096)))), (43, (.bool false)), (11, (.int .i64 0)), (10, (.int .i64 2)), (9, (ptr b2 0)), (32, (.bool false)), (8, (ptr u1 0)), (7, (.bool true)), (3, (ptr b1 0)), (0, (.agg #[vn, (.int .i64 ino), (.int .i64 kind), (.int .i64 m), (.int .i64 u'), (.int .i64 gi'), vd, (.string target), vx, (.bool opq)])), (1, (.string s)), (2, (.int .i64 more))]) (fun (i : Int × Int × List (ByteArray × Int)) w' => match i with | (j, lk3, R) => ∃ gl3 : World, 0 ≤ j ∧ j ≤ 5 ∧ (R.length : Int) = lk3 ∧ lk3 ≤ 5 ∧ In3 s j R ∧ Mono g8 gl3 ∧ SL ⟨w, g⟩ gl3 w' [upS Try.prog uty u1 100 100000 3 (stR ⟨kind, m, u', gi', data, target, xs⟩ R), blk b3 #[(.int .i64 kind), (.int .i64 m), (.int .i64 u'), (.int .i64 gi'), (.int .i64 (E.length : Int)), (.int .i64 ((data.length : Int) + (target.size : Int) + ((0 : Nat) : Int)))] 39, blk b2 #[(.int .i64 1), (.int .i64 64)] 33, blk b1 #[vn, (.int .i64 ino), (.int .i64 kind), (.int .i64 m), (.int .i64 u'), (.int .i64 gi'), vd, (.string target), vx, (.bool opq)] 28]) (fun (i : Int × Int × List (ByteArray × Int)) => match i with | (j, lk3, R) => (5 - j).toNat) (0, lk, (delK E s)) ⟨rfl, rfl, rfl, rfl, rfl, rfl, rfl, rfl, rfl, rfl, rfl, rfl, rfl, rfl, rfl, rfl, rfl, rfl, rfl, rfl, rfl, rfl, rfl, rfl, rfl, rfl, rfl, rfl, rfl, trivial⟩ ⟨g8, by omega, by omega, by have q := delK_len hE2.nodup hE2.get; omega, by omega, hE2.del (by omega), Mono.refl _, H⟩ ?_
                      clear H
                      rintro ⟨j, lk3, R⟩ w34 ⟨gl3, hj0, hj5, hRl, hl5, hR, m11, H⟩
                      refine Cs [(23, (.int .i64 j)), (21, (.int .i64 lk3)), (198, (.bool false)), (163, (.bool false)), (22, (.int .i64 k2)), (20, (.slice (some ⟨b4, 0, none⟩) 5 5)), (149, (.bool (!((2 == 2) && (((128 + (data.length : Int) + (target.size : Int) + sumX xs + (s.size : Int)) == (64 + by_)) && true))))), (119, (.bool (decide (ix < (xs.length : Int))))), (19, (.int .i64 ix)), (18, (.int .i64 by_)), (109, (.bool false)), (17, (.int .i64 ((data.length : Int) + (target.size : Int)))), (16, (.bool (sameX xs xs))), (15, (.int .i64 0)), (14, v1), (13, (.int .i64 0)), (12, (ptr b3 0)), (61, (.bool (decide ((data.length : Int) > 4096)))), (43, (.bool false)), (11, (.int .i64 0)), (10, (.int .i64 2)), (9, (ptr b2 0)), (32, (.bool false)), (8, (ptr u1 0)), (7, (.bool true)), (3, (ptr b1 0)), (0, (.agg #[vn, (.int .i64 ino), (.int .i64 kind), (.int .i64 m), (.int .i64 u'), (.int .i64 gi'), vd, (.string target), vx, (.bool opq)])), (1, (.string s)), (2, (.int .i64 more))] ?_
                      refine C_seq ?_
                      refine C_seq ?_
                      refine C_region ?_
                      refine Rv (.int .i64 j) w34 ?_
                      refine Rv (.bool (decide (j < 5))) w34 ?_
                      rcases Bool.eq_false_or_eq_true (decide (j < 5)) with c16 | c16
                      · have d16 : j < 5 := of_decide_eq_true c16
                        refine Rw (.bool true) w34 (eq_bool (by kernel_rfl) c16) ?_
                        refine Rv (.int .i64 lk3) w34 ?_
                        refine Rv (.bool (decide (lk3 > 0))) w34 ?_
                        refine Rv (.bool (decide (lk3 > 0))) w34 ?_
                        refine wpR_nil ?_
                        refine E_then_normal ?_
                        refine C_cond rfl (fun c17 => ?_) (fun c17 => ?_)
                        · have d17 : lk3 > 0 := of_decide_eq_true c17
                          refine C_skip ?_
                          refine E_then_normal ?_
                          refine C_seq ?_
                          refine C_block ?_
                          refine C_seq ?_
                          refine Cs [(204, (.bool (decide (lk3 > 0)))), (23, (.int .i64 j)), (21, (.int .i64 lk3)), (198, (.bool false)), (163, (.bool false)), (22, (.int .i64 k2)), (20, (.slice (some ⟨b4, 0, none⟩) 5 5)), (149, (.bool (!((2 == 2) && (((128 + (data.length : Int) + (target.size : Int) + sumX xs + (s.size : Int)) == (64 + by_)) && true))))), (119, (.bool (decide (ix < (xs.length : Int))))), (19, (.int .i64 ix)), (18, (.int .i64 by_)), (109, (.bool false)), (17, (.int .i64 ((data.length : Int) + (target.size : Int)))), (16, (.bool (sameX xs xs))), (15, (.int .i64 0)), (14, v1), (13, (.int .i64 0)), (12, (ptr b3 0)), (61, (.bool (decide ((data.length : Int) > 4096)))), (43, (.bool false)), (11, (.int .i64 0)), (10, (.int .i64 2)), (9, (ptr b2 0)), (32, (.bool false)), (8, (ptr u1 0)), (7, (.bool true)), (3, (ptr b1 0)), (0, (.agg #[vn, (.int .i64 ino), (.int .i64 kind), (.int .i64 m), (.int .i64 u'), (.int .i64 gi'), vd, (.string target), vx, (.bool opq)])), (1, (.string s)), (2, (.int .i64 more))] ?_
                          refine C_region ?_
                          refine Rv (.slice (some ⟨b4, 0, none⟩) 5 5) w34 ?_
                          refine Rv (.int .i64 j) w34 ?_
                          refine Rw (elemP 1 (.slice (some ⟨b4, 0, none⟩) 5 5) j) w34 (X_indexAddr ((hx3.mono ((m4.trans m10).trans m11)).mono H.m) (by first | decide | omega | exact nm_size (by omega) (by omega) | (simp; omega)) (by first | decide | omega | exact nm_size (by omega) (by omega) | (simp; omega)) rfl Try.underlying22 (by kernel_rfl) rfl rfl) ?_
                          refine Rw (.string (nth NM j)) w34 (X_load rfl rfl (run_load_str ((hx3.mono ((m4.trans m10).trans m11)).mono H.m) (by first | decide | omega | exact nm_size (by omega) (by omega) | (simp; omega)) (by first | decide | omega | exact nm_size (by omega) (by omega) | (simp; omega)) Try.underlying9 (by kernel_rfl))) ?_
                          refine Rv (.string s) w34 ?_
                          refine Rv (.bool (!((nth NM j).toList == s.toList))) w34 ?_
                          rcases Bool.eq_false_or_eq_true (!((nth NM j).toList == s.toList)) with c18 | c18
                          · refine Rw (.bool true) w34 (eq_bool (by kernel_rfl) c18) ?_
                            refine Rv (ptr u1 0) w34 ?_
                            refine Rv (.slice (some ⟨b4, 0, none⟩) 5 5) w34 ?_
                            refine Rv (.int .i64 j) w34 ?_
                            refine Rw (elemP 1 (.slice (some ⟨b4, 0, none⟩) 5 5) j) w34 (X_indexAddr ((hx3.mono ((m4.trans m10).trans m11)).mono H.m) (by first | decide | omega | exact nm_size (by omega) (by omega) | (simp; omega)) (by first | decide | omega | exact nm_size (by omega) (by omega) | (simp; omega)) rfl Try.underlying22 (by kernel_rfl) rfl rfl) ?_
                            refine Rw (.string (nth NM j)) w34 (X_load rfl rfl (run_load_str ((hx3.mono ((m4.trans m10).trans m11)).mono H.m) (by first | decide | omega | exact nm_size (by omega) (by omega) | (simp; omega)) (by first | decide | omega | exact nm_size (by omega) (by omega) | (simp; omega)) Try.underlying9 (by kernel_rfl))) ?_
                            have hRne : R ≠ [] := fun e => by rw [e] at hRl; simp at hRl; omega
                            rcases hg3 : getK R (nth NM j) with _ | x2
                            · refine Rc #[(ptr u1 0), (.int .i64 1), (.string (nth NM j))] w34 (remove_S u1 100 100000 3 (stR ⟨kind, m, u', gi', data, target, xs⟩ R) 1 (nth NM j) _ _ _ _ H 20 (stR ⟨kind, m, u', gi', data, target, xs⟩ R) (by rw [stR_pos hRne]; exact rmNoL hg3) (by rw [stR_pos hRne]; exact rmNoLS hg3) (by decide) (by first | decide | omega | exact nm_size (by omega) (by omega) | (simp; omega)) (by rw [stR_pos hRne]; exact hexL (by omega) (fun v hv => hR.get2 hv))) ?_
                              rintro _ w35 ⟨g9, m12, Hn, rfl⟩
                              replace H := Hn
                              clear Hn
                              refine Rv (.bool false) w35 ?_
                              refine Rv (.bool false) w35 ?_
                              refine wpR_nil ?_
                              refine E_then_normal ?_
                              refine C_false rfl ?_
                              refine C_skip ?_
                              refine E_block_normal ?_
                              refine E_then_normal ?_
                              refine Cs [(221, (.bool false)), (204, (.bool (decide (lk3 > 0)))), (23, (.int .i64 j)), (21, (.int .i64 lk3)), (198, (.bool false)), (163, (.bool false)), (22, (.int .i64 k2)), (20, (.slice (some ⟨b4, 0, none⟩) 5 5)), (149, (.bool (!((2 == 2) && (((128 + (data.length : Int) + (target.size : Int) + sumX xs + (s.size : Int)) == (64 + by_)) && true))))), (119, (.bool (decide (ix < (xs.length : Int))))), (19, (.int .i64 ix)), (18, (.int .i64 by_)), (109, (.bool false)), (17, (.int .i64 ((data.length : Int) + (target.size : Int)))), (16, (.bool (sameX xs xs))), (15, (.int .i64 0)), (14, v1), (13, (.int .i64 0)), (12, (ptr b3 0)), (61, (.bool (decide ((data.length : Int) > 4096)))), (43, (.bool false)), (11, (.int .i64 0)), (10, (.int .i64 2)), (9, (ptr b2 0)), (32, (.bool false)), (8, (ptr u1 0)), (7, (.bool true)), (3, (ptr b1 0)), (0, (.agg #[vn, (.int .i64 ino), (.int .i64 kind), (.int .i64 m), (.int .i64 u'), (.int .i64 gi'), vd, (.string target), vx, (.bool opq)])), (1, (.string s)), (2, (.int .i64 more))] ?_
                              refine C_region ?_
                              refine Rv (.int .i64 j) w35 ?_
                              refine Rw (.int .i64 (j + 1)) w35 (eq_int (by kernel_rfl) (wrap64_in (by first | decide | omega | exact nm_size (by omega) (by omega) | (simp; omega)) (by first | decide | omega | exact nm_size (by omega) (by omega) | (simp; omega)))) ?_
                              refine Rv (.int .i64 (j + 1)) w35 ?_
                              refine wpR_nil ?_
                              replace H := H.pick 3
                              replace H := H.pick 3
                              replace H := H.pick 3
                              replace H := H.pick 3
                              refine E_then_mid fun aq11 ha7 => ⟨(j + 1, lk3, R), ha7.sub ⟨rfl, rfl, rfl, rfl, rfl, rfl, rfl, rfl, rfl, rfl, rfl, rfl, rfl, rfl, rfl, rfl, rfl, rfl, rfl, rfl, rfl, rfl, rfl, rfl, rfl, rfl, rfl, rfl, rfl, trivial⟩, ⟨g9, by omega, by omega, by first | omega | (have q := delK_len hR.nodup hg3; omega), by omega, hR.skip (.inr hg3), (m11.trans m12), H⟩, ?_⟩
                              (first | omega | (dsimp only; omega))
                            · obtain rfl := hR.get2 hg3
                              refine Rc #[(ptr u1 0), (.int .i64 1), (.string (nth NM j))] w34 (remove_S u1 100 100000 3 (stR ⟨kind, m, u', gi', data, target, xs⟩ R) 1 (nth NM j) _ _ _ _ H 0 (stR ⟨kind, m, u', gi', data, target, xs⟩ (delK R (nth NM j))) (by rw [stR_pos hRne]; exact rmL hg3) (by rw [stR_pos hRne]; exact rmLS hR.nodup hg3) (by decide) (by first | decide | omega | exact nm_size (by omega) (by omega) | (simp; omega)) (by rw [stR_pos hRne]; exact hexL (by omega) (fun v hv => hR.get2 hv))) ?_
                              rintro _ w36 ⟨g10, m13, Hn, rfl⟩
                              replace H := Hn
                              clear Hn
                              refine Rv (.bool true) w36 ?_
                              refine Rv (.bool true) w36 ?_
                              refine wpR_nil ?_
                              refine E_then_normal ?_
                              refine C_true rfl ?_
                              refine Cs [(221, (.bool true)), (204, (.bool (decide (lk3 > 0)))), (23, (.int .i64 j)), (21, (.int .i64 lk3)), (198, (.bool false)), (163, (.bool false)), (22, (.int .i64 k2)), (20, (.slice (some ⟨b4, 0, none⟩) 5 5)), (149, (.bool (!((2 == 2) && (((128 + (data.length : Int) + (target.size : Int) + sumX xs + (s.size : Int)) == (64 + by_)) && true))))), (119, (.bool (decide (ix < (xs.length : Int))))), (19, (.int .i64 ix)), (18, (.int .i64 by_)), (109, (.bool false)), (17, (.int .i64 ((data.length : Int) + (target.size : Int)))), (16, (.bool (sameX xs xs))), (15, (.int .i64 0)), (14, v1), (13, (.int .i64 0)), (12, (ptr b3 0)), (61, (.bool (decide ((data.length : Int) > 4096)))), (43, (.bool false)), (11, (.int .i64 0)), (10, (.int .i64 2)), (9, (ptr b2 0)), (32, (.bool false)), (8, (ptr u1 0)), (7, (.bool true)), (3, (ptr b1 0)), (0, (.agg #[vn, (.int .i64 ino), (.int .i64 kind), (.int .i64 m), (.int .i64 u'), (.int .i64 gi'), vd, (.string target), vx, (.bool opq)])), (1, (.string s)), (2, (.int .i64 more))] ?_
                              refine C_region ?_
                              refine Rv (.int .i64 lk3) w36 ?_
                              refine Rw (.int .i64 (lk3 - 1)) w36 (eq_int (by kernel_rfl) (wrap64_in (by first | decide | omega | exact nm_size (by omega) (by omega) | (simp; omega)) (by first | decide | omega | exact nm_size (by omega) (by omega) | (simp; omega)))) ?_
                              refine Rv (.int .i64 (lk3 - 1)) w36 ?_
                              refine wpR_nil ?_
                              refine E_block_normal ?_
                              refine E_then_normal ?_
                              refine Cs [(21, (.int .i64 (lk3 - 1))), (221, (.bool true)), (204, (.bool (decide (lk3 > 0)))), (23, (.int .i64 j)), (198, (.bool false)), (163, (.bool false)), (22, (.int .i64 k2)), (20, (.slice (some ⟨b4, 0, none⟩) 5 5)), (149, (.bool (!((2 == 2) && (((128 + (data.length : Int) + (target.size : Int) + sumX xs + (s.size : Int)) == (64 + by_)) && true))))), (119, (.bool (decide (ix < (xs.length : Int))))), (19, (.int .i64 ix)), (18, (.int .i64 by_)), (109, (.bool false)), (17, (.int .i64 ((data.length : Int) + (target.size : Int)))), (16, (.bool (sameX xs xs))), (15, (.int .i64 0)), (14, v1), (13, (.int .i64 0)), (12, (ptr b3 0)), (61, (.bool (decide ((data.length : Int) > 4096)))), (43, (.bool false)), (11, (.int .i64 0)), (10, (.int .i64 2)), (9, (ptr b2 0)), (32, (.bool false)), (8, (ptr u1 0)), (7, (.bool true)), (3, (ptr b1 0)), (0, (.agg #[vn, (.int .i64 ino), (.int .i64 kind), (.int .i64 m), (.int .i64 u'), (.int .i64 gi'), vd, (.string target), vx, (.bool opq)])), (1, (.string s)), (2, (.int .i64 more))] ?_
                              refine C_region ?_
                              refine Rv (.int .i64 j) w36 ?_
                              refine Rw (.int .i64 (j + 1)) w36 (eq_int (by kernel_rfl) (wrap64_in (by first | decide | omega | exact nm_size (by omega) (by omega) | (simp; omega)) (by first | decide | omega | exact nm_size (by omega) (by omega) | (simp; omega)))) ?_
                              refine Rv (.int .i64 (j + 1)) w36 ?_
                              refine wpR_nil ?_
                              replace H := H.pick 3
                              replace H := H.pick 3
                              replace H := H.pick 3
                              replace H := H.pick 3
                              refine E_then_mid fun aq12 ha8 => ⟨(j + 1, lk3 - 1, (delK R (nth NM j))), ha8.sub ⟨rfl, rfl, rfl, rfl, rfl, rfl, rfl, rfl, rfl, rfl, rfl, rfl, rfl, rfl, rfl, rfl, rfl, rfl, rfl, rfl, rfl, rfl, rfl, rfl, rfl, rfl, rfl, rfl, rfl, trivial⟩, ⟨g10, by omega, by omega, by first | omega | (have q := delK_len hR.nodup hg3; omega), by omega, hR.take, (m11.trans m13), H⟩, ?_⟩
                              (first | omega | (dsimp only; omega))
                          · refine Rw (.bool false) w34 (eq_bool (by kernel_rfl) c18) ?_
                            iterate 7 refine Rs ?_
                            refine Rv (.bool false) w34 ?_
                            refine wpR_nil ?_
                            refine E_then_normal ?_
                            refine C_false rfl ?_
                            refine C_skip ?_
                            refine E_block_normal ?_
                            refine E_then_normal ?_
                            refine Cs [(221, (.bool false)), (204, (.bool (decide (lk3 > 0)))), (23, (.int .i64 j)), (21, (.int .i64 lk3)), (198, (.bool false)), (163, (.bool false)), (22, (.int .i64 k2)), (20, (.slice (some ⟨b4, 0, none⟩) 5 5)), (149, (.bool (!((2 == 2) && (((128 + (data.length : Int) + (target.size : Int) + sumX xs + (s.size : Int)) == (64 + by_)) && true))))), (119, (.bool (decide (ix < (xs.length : Int))))), (19, (.int .i64 ix)), (18, (.int .i64 by_)), (109, (.bool false)), (17, (.int .i64 ((data.length : Int) + (target.size : Int)))), (16, (.bool (sameX xs xs))), (15, (.int .i64 0)), (14, v1), (13, (.int .i64 0)), (12, (ptr b3 0)), (61, (.bool (decide ((data.length : Int) > 4096)))), (43, (.bool false)), (11, (.int .i64 0)), (10, (.int .i64 2)), (9, (ptr b2 0)), (32, (.bool false)), (8, (ptr u1 0)), (7, (.bool true)), (3, (ptr b1 0)), (0, (.agg #[vn, (.int .i64 ino), (.int .i64 kind), (.int .i64 m), (.int .i64 u'), (.int .i64 gi'), vd, (.string target), vx, (.bool opq)])), (1, (.string s)), (2, (.int .i64 more))] ?_
                            refine C_region ?_
                            refine Rv (.int .i64 j) w34 ?_
                            refine Rw (.int .i64 (j + 1)) w34 (eq_int (by kernel_rfl) (wrap64_in (by first | decide | omega | exact nm_size (by omega) (by omega) | (simp; omega)) (by first | decide | omega | exact nm_size (by omega) (by omega) | (simp; omega)))) ?_
                            refine Rv (.int .i64 (j + 1)) w34 ?_
                            refine wpR_nil ?_
                            replace H := H.pick 3
                            replace H := H.pick 3
                            replace H := H.pick 3
                            replace H := H.pick 3
                            refine E_then_mid fun aq13 ha9 => ⟨(j + 1, lk3, R), ha9.sub ⟨rfl, rfl, rfl, rfl, rfl, rfl, rfl, rfl, rfl, rfl, rfl, rfl, rfl, rfl, rfl, rfl, rfl, rfl, rfl, rfl, rfl, rfl, rfl, rfl, rfl, rfl, rfl, rfl, rfl, trivial⟩, ⟨gl3, by omega, by omega, by first | omega | (have q := delK_len hR.nodup hRl; omega), by omega, hR.skip (.inl (eq_of_list c18)), m11, H⟩, ?_⟩
                            (first | omega | (dsimp only; omega))
                        · have d17 : ¬ lk3 > 0 := of_decide_eq_false c17
                          refine C_exit ?_
                          refine E_then_exit ?_
                          refine E_then_exit ?_
                          refine E_block_here ?_
                          refine E_then_normal ?_
                          refine C_seq ?_
                          refine Cs [(204, (.bool (decide (lk3 > 0)))), (23, (.int .i64 j)), (21, (.int .i64 lk3)), (198, (.bool false)), (163, (.bool false)), (22, (.int .i64 k2)), (20, (.slice (some ⟨b4, 0, none⟩) 5 5)), (149, (.bool (!((2 == 2) && (((128 + (data.length : Int) + (target.size : Int) + sumX xs + (s.size : Int)) == (64 + by_)) && true))))), (119, (.bool (decide (ix < (xs.length : Int))))), (19, (.int .i64 ix)), (18, (.int .i64 by_)), (109, (.bool false)), (17, (.int .i64 ((data.length : Int) + (target.size : Int)))), (16, (.bool (sameX xs xs))), (15, (.int .i64 0)), (14, v1), (13, (.int .i64 0)), (12, (ptr b3 0)), (61, (.bool (decide ((data.length : Int) > 4096)))), (43, (.bool false)), (11, (.int .i64 0)), (10, (.int .i64 2)), (9, (ptr b2 0)), (32, (.bool false)), (8, (ptr u1 0)), (7, (.bool true)), (3, (ptr b1 0)), (0, (.agg #[vn, (.int .i64 ino), (.int .i64 kind), (.int .i64 m), (.int .i64 u'), (.int .i64 gi'), vd, (.string target), vx, (.bool opq)])), (1, (.string s)), (2, (.int .i64 more))] ?_
                          have hR0 : R = [] := hR.fin (by omega)
                          subst hR0
                          refine C_region ?_
                          refine Rv (ptr u1 0) w34 ?_
                          refine Rv (.int .i64 2) w34 ?_
                          refine Rc #[(ptr u1 0), (.int .i64 2)] w34 (statno_S u1 100 100000 3 ([(1, rootU [])]) 2 _ _ _ _ H rfl (by decide)) ?_
                          rintro _ w37 ⟨rfl, l16⟩
                          replace H := H.le l16
                          refine Rv (.tuple #[(.agg #[(.int .i64 0), (.int .i64 0), (.int .i64 0), (.int .i64 0), (.int .i64 0), (.int .i64 0)]), (.int .i64 1)]) w37 ?_
                          refine Rv (.agg #[(.int .i64 0), (.int .i64 0), (.int .i64 0), (.int .i64 0), (.int .i64 0), (.int .i64 0)]) w37 ?_
                          refine Rv (.int .i64 1) w37 ?_
                          refine Rv (.int .i64 1) w37 ?_
                          refine wpR_nil ?_
                          refine E_then_normal ?_
                          refine C_seq ?_
                          refine Cs [(13, (.int .i64 1)), (204, (.bool (decide (lk3 > 0)))), (23, (.int .i64 j)), (21, (.int .i64 lk3)), (198, (.bool false)), (163, (.bool false)), (22, (.int .i64 k2)), (20, (.slice (some ⟨b4, 0, none⟩) 5 5)), (149, (.bool (!((2 == 2) && (((128 + (data.length : Int) + (target.size : Int) + sumX xs + (s.size : Int)) == (64 + by_)) && true))))), (119, (.bool (decide (ix < (xs.length : Int))))), (19, (.int .i64 ix)), (18, (.int .i64 by_)), (109, (.bool false)), (17, (.int .i64 ((data.length : Int) + (target.size : Int)))), (16, (.bool (sameX xs xs))), (15, (.int .i64 0)), (14, v1), (12, (ptr b3 0)), (61, (.bool (decide ((data.length : Int) > 4096)))), (43, (.bool false)), (11, (.int .i64 0)), (10, (.int .i64 2)), (9, (ptr b2 0)), (32, (.bool false)), (8, (ptr u1 0)), (7, (.bool true)), (3, (ptr b1 0)), (0, (.agg #[vn, (.int .i64 ino), (.int .i64 kind), (.int .i64 m), (.int .i64 u'), (.int .i64 gi'), vd, (.string target), vx, (.bool opq)])), (1, (.string s)), (2, (.int .i64 more))] ?_
                          refine C_drawT 6 [fun _ v => v = (.int .i64 1), fun _ v => v = (.bool true), fun _ v => v = (.bool true), fun _ v => v = (ptr u1 0), fun _ v => v = (.agg #[(.int .i64 1), (.int .i64 64)]), fun _ v => v = (.agg #[(.int .i64 1), (.int .i64 64)])] (by kernel_rfl) (by kernel_rfl) (by kernel_rfl) (by kernel_rfl) ⟨stab_exact _, stab_exact _, stab_exact _, stab_exact _, stab_exact _, stab_exact _, trivial⟩ ⟨?_, ?_, ?_, ?_, ?_, ?_, trivial⟩ ?_
                          · intro aq wd ld hfd hdd
                            have hfd := Fr.cast (s' := [(13, (.int .i64 1)), (204, (.bool (decide (lk3 > 0)))), (23, (.int .i64 j)), (21, (.int .i64 lk3)), (198, (.bool false)), (163, (.bool false)), (22, (.int .i64 k2)), (20, (.slice (some ⟨b4, 0, none⟩) 5 5)), (149, (.bool (!((2 == 2) && (((128 + (data.length : Int) + (target.size : Int) + sumX xs + (s.size : Int)) == (64 + by_)) && true))))), (119, (.bool (decide (ix < (xs.length : Int))))), (19, (.int .i64 ix)), (18, (.int .i64 by_)), (109, (.bool false)), (17, (.int .i64 ((data.length : Int) + (target.size : Int)))), (16, (.bool (sameX xs xs))), (15, (.int .i64 0)), (14, v1), (12, (ptr b3 0)), (61, (.bool (decide ((data.length : Int) > 4096)))), (43, (.bool false)), (11, (.int .i64 0)), (10, (.int .i64 2)), (9, (ptr b2 0)), (32, (.bool false)), (8, (ptr u1 0)), (7, (.bool true)), (3, (ptr b1 0)), (0, (.agg #[vn, (.int .i64 ino), (.int .i64 kind), (.int .i64 m), (.int .i64 u'), (.int .i64 gi'), vd, (.string target), vx, (.bool opq)])), (1, (.string s)), (2, (.int .i64 more))]) hfd (by kernel_rfl)
                            exact G_val (v := (.int .i64 1)) (w' := wd) hfd rfl (by kernel_rfl) (by kernel_rfl) (Le.refl _) rfl
                          · intro aq wd ld hfd hdd
                            have hfd := Fr.cast (s' := [(13, (.int .i64 1)), (204, (.bool (decide (lk3 > 0)))), (23, (.int .i64 j)), (21, (.int .i64 lk3)), (198, (.bool false)), (163, (.bool false)), (22, (.int .i64 k2)), (20, (.slice (some ⟨b4, 0, none⟩) 5 5)), (149, (.bool (!((2 == 2) && (((128 + (data.length : Int) + (target.size : Int) + sumX xs + (s.size : Int)) == (64 + by_)) && true))))), (119, (.bool (decide (ix < (xs.length : Int))))), (19, (.int .i64 ix)), (18, (.int .i64 by_)), (109, (.bool false)), (17, (.int .i64 ((data.length : Int) + (target.size : Int)))), (16, (.bool (sameX xs xs))), (15, (.int .i64 0)), (14, v1), (12, (ptr b3 0)), (61, (.bool (decide ((data.length : Int) > 4096)))), (43, (.bool false)), (11, (.int .i64 0)), (10, (.int .i64 2)), (9, (ptr b2 0)), (32, (.bool false)), (8, (ptr u1 0)), (7, (.bool true)), (3, (ptr b1 0)), (0, (.agg #[vn, (.int .i64 ino), (.int .i64 kind), (.int .i64 m), (.int .i64 u'), (.int .i64 gi'), vd, (.string target), vx, (.bool opq)])), (1, (.string s)), (2, (.int .i64 more))]) hfd (by kernel_rfl)
                            obtain ⟨e0, _⟩ := hdd
                            have hfd := Fr.add (t := 230) (v := (.int .i64 1)) hfd e0
                            exact G_val (v := (.bool true)) (w' := wd) hfd rfl (by kernel_rfl) (by kernel_rfl) (Le.refl _) rfl
                          · intro aq wd ld hfd hdd
                            have hfd := Fr.cast (s' := [(13, (.int .i64 1)), (204, (.bool (decide (lk3 > 0)))), (23, (.int .i64 j)), (21, (.int .i64 lk3)), (198, (.bool false)), (163, (.bool false)), (22, (.int .i64 k2)), (20, (.slice (some ⟨b4, 0, none⟩) 5 5)), (149, (.bool (!((2 == 2) && (((128 + (data.length : Int) + (target.size : Int) + sumX xs + (s.size : Int)) == (64 + by_)) && true))))), (119, (.bool (decide (ix < (xs.length : Int))))), (19, (.int .i64 ix)), (18, (.int .i64 by_)), (109, (.bool false)), (17, (.int .i64 ((data.length : Int) + (target.size : Int)))), (16, (.bool (sameX xs xs))), (15, (.int .i64 0)), (14, v1), (12, (ptr b3 0)), (61, (.bool (decide ((data.length : Int) > 4096)))), (43, (.bool false)), (11, (.int .i64 0)), (10, (.int .i64 2)), (9, (ptr b2 0)), (32, (.bool false)), (8, (ptr u1 0)), (7, (.bool true)), (3, (ptr b1 0)), (0, (.agg #[vn, (.int .i64 ino), (.int .i64 kind), (.int .i64 m), (.int .i64 u'), (.int .i64 gi'), vd, (.string target), vx, (.bool opq)])), (1, (.string s)), (2, (.int .i64 more))]) hfd (by kernel_rfl)
                            obtain ⟨e1, _⟩ := hdd
                            have hfd := Fr.add (t := 231) (v := (.bool true)) hfd e1
                            exact G_val (v := (.bool true)) (w' := wd) hfd rfl (by kernel_rfl) (by kernel_rfl) (Le.refl _) rfl
                          · intro aq wd ld hfd hdd
                            have hfd := Fr.cast (s' := [(13, (.int .i64 1)), (204, (.bool (decide (lk3 > 0)))), (23, (.int .i64 j)), (21, (.int .i64 lk3)), (198, (.bool false)), (163, (.bool false)), (22, (.int .i64 k2)), (20, (.slice (some ⟨b4, 0, none⟩) 5 5)), (149, (.bool (!((2 == 2) && (((128 + (data.length : Int) + (target.size : Int) + sumX xs + (s.size : Int)) == (64 + by_)) && true))))), (119, (.bool (decide (ix < (xs.length : Int))))), (19, (.int .i64 ix)), (18, (.int .i64 by_)), (109, (.bool false)), (17, (.int .i64 ((data.length : Int) + (target.size : Int)))), (16, (.bool (sameX xs xs))), (15, (.int .i64 0)), (14, v1), (12, (ptr b3 0)), (61, (.bool (decide ((data.length : Int) > 4096)))), (43, (.bool false)), (11, (.int .i64 0)), (10, (.int .i64 2)), (9, (ptr b2 0)), (32, (.bool false)), (8, (ptr u1 0)), (7, (.bool true)), (3, (ptr b1 0)), (0, (.agg #[vn, (.int .i64 ino), (.int .i64 kind), (.int .i64 m), (.int .i64 u'), (.int .i64 gi'), vd, (.string target), vx, (.bool opq)])), (1, (.string s)), (2, (.int .i64 more))]) hfd (by kernel_rfl)
                            obtain ⟨e2, _⟩ := hdd
                            have hfd := Fr.add (t := 232) (v := (.bool true)) hfd e2
                            exact G_val (v := (ptr u1 0)) (w' := wd) hfd rfl (by kernel_rfl) (by kernel_rfl) (Le.refl _) rfl
                          · intro aq wd ld hfd hdd
                            have hfd := Fr.cast (s' := [(13, (.int .i64 1)), (204, (.bool (decide (lk3 > 0)))), (23, (.int .i64 j)), (21, (.int .i64 lk3)), (198, (.bool false)), (163, (.bool false)), (22, (.int .i64 k2)), (20, (.slice (some ⟨b4, 0, none⟩) 5 5)), (149, (.bool (!((2 == 2) && (((128 + (data.length : Int) + (target.size : Int) + sumX xs + (s.size : Int)) == (64 + by_)) && true))))), (119, (.bool (decide (ix < (xs.length : Int))))), (19, (.int .i64 ix)), (18, (.int .i64 by_)), (109, (.bool false)), (17, (.int .i64 ((data.length : Int) + (target.size : Int)))), (16, (.bool (sameX xs xs))), (15, (.int .i64 0)), (14, v1), (12, (ptr b3 0)), (61, (.bool (decide ((data.length : Int) > 4096)))), (43, (.bool false)), (11, (.int .i64 0)), (10, (.int .i64 2)), (9, (ptr b2 0)), (32, (.bool false)), (8, (ptr u1 0)), (7, (.bool true)), (3, (ptr b1 0)), (0, (.agg #[vn, (.int .i64 ino), (.int .i64 kind), (.int .i64 m), (.int .i64 u'), (.int .i64 gi'), vd, (.string target), vx, (.bool opq)])), (1, (.string s)), (2, (.int .i64 more))]) hfd (by kernel_rfl)
                            obtain ⟨e3, e2, _, _⟩ := hdd
                            have hfd := Fr.add (t := 233) (v := (ptr u1 0)) hfd e3
                            have hfd := Fr.add (t := 232) (v := (.bool true)) hfd e2
                            exact G_call (args := #[(ptr u1 0)]) (w := wd) hfd rfl (by kernel_rfl) (by kernel_rfl) (used_S u1 100 100000 3 ([(1, rootU [])]) _ _ _ _ (H.le ld) 1 64 rfl rfl (by decide)) fun v w' ⟨he, hl⟩ => ⟨hl, he⟩
                          · intro aq wd ld hfd hdd
                            have hfd := Fr.cast (s' := [(13, (.int .i64 1)), (204, (.bool (decide (lk3 > 0)))), (23, (.int .i64 j)), (21, (.int .i64 lk3)), (198, (.bool false)), (163, (.bool false)), (22, (.int .i64 k2)), (20, (.slice (some ⟨b4, 0, none⟩) 5 5)), (149, (.bool (!((2 == 2) && (((128 + (data.length : Int) + (target.size : Int) + sumX xs + (s.size : Int)) == (64 + by_)) && true))))), (119, (.bool (decide (ix < (xs.length : Int))))), (19, (.int .i64 ix)), (18, (.int .i64 by_)), (109, (.bool false)), (17, (.int .i64 ((data.length : Int) + (target.size : Int)))), (16, (.bool (sameX xs xs))), (15, (.int .i64 0)), (14, v1), (12, (ptr b3 0)), (61, (.bool (decide ((data.length : Int) > 4096)))), (43, (.bool false)), (11, (.int .i64 0)), (10, (.int .i64 2)), (9, (ptr b2 0)), (32, (.bool false)), (8, (ptr u1 0)), (7, (.bool true)), (3, (ptr b1 0)), (0, (.agg #[vn, (.int .i64 ino), (.int .i64 kind), (.int .i64 m), (.int .i64 u'), (.int .i64 gi'), vd, (.string target), vx, (.bool opq)])), (1, (.string s)), (2, (.int .i64 more))]) hfd (by kernel_rfl)
                            obtain ⟨e2, _⟩ := hdd
                            have hfd := Fr.add (t := 232) (v := (.bool true)) hfd e2
                            exact G_val hfd rfl (by kernel_rfl) (load_ev (run_load_row ((H.le ld).blk 2) Try.underlying33 rfl (vs := [(.int .i64 1), (.int .i64 64)]) (by kernel_rfl) rfl) rfl rfl) (Le.refl _) rfl
                          intro aq14 w38 l17 hf5 fa5
                          obtain ⟨_, _, qv11, _, qv12, qv13, _⟩ := fa5
                          have hf5 := Fr.cast (s' := [(13, (.int .i64 1)), (204, (.bool (decide (lk3 > 0)))), (23, (.int .i64 j)), (21, (.int .i64 lk3)), (198, (.bool false)), (163, (.bool false)), (22, (.int .i64 k2)), (20, (.slice (some ⟨b4, 0, none⟩) 5 5)), (149, (.bool (!((2 == 2) && (((128 + (data.length : Int) + (target.size : Int) + sumX xs + (s.size : Int)) == (64 + by_)) && true))))), (119, (.bool (decide (ix < (xs.length : Int))))), (19, (.int .i64 ix)), (18, (.int .i64 by_)), (109, (.bool false)), (17, (.int .i64 ((data.length : Int) + (target.size : Int)))), (16, (.bool (sameX xs xs))), (15, (.int .i64 0)), (14, v1), (12, (ptr b3 0)), (61, (.bool (decide ((data.length : Int) > 4096)))), (43, (.bool false)), (11, (.int .i64 0)), (10, (.int .i64 2)), (9, (ptr b2 0)), (32, (.bool false)), (8, (ptr u1 0)), (7, (.bool true)), (3, (ptr b1 0)), (0, (.agg #[vn, (.int .i64 ino), (.int .i64 kind), (.int .i64 m), (.int .i64 u'), (.int .i64 gi'), vd, (.string target), vx, (.bool opq)])), (1, (.string s)), (2, (.int .i64 more))]) hf5 (by kernel_rfl)
                          have hf5 := Fr.add (t := 232) (v := (.bool true)) hf5 qv11
                          have hf5 := Fr.add (t := 234) (v := (.agg #[(.int .i64 1), (.int .i64 64)])) hf5 qv12
                          have hf5 := Fr.add (t := 235) (v := (.agg #[(.int .i64 1), (.int .i64 64)])) hf5 qv13
                          replace H := H.le l17
                          refine (?_ : wpR _ _ _ _ [(235, (.agg #[(.int .i64 1), (.int .i64 64)])), (234, (.agg #[(.int .i64 1), (.int .i64 64)])), (232, (.bool true)), (13, (.int .i64 1)), (204, (.bool (decide (lk3 > 0)))), (23, (.int .i64 j)), (21, (.int .i64 lk3)), (198, (.bool false)), (163, (.bool false)), (22, (.int .i64 k2)), (20, (.slice (some ⟨b4, 0, none⟩) 5 5)), (149, (.bool (!((2 == 2) && (((128 + (data.length : Int) + (target.size : Int) + sumX xs + (s.size : Int)) == (64 + by_)) && true))))), (119, (.bool (decide (ix < (xs.length : Int))))), (19, (.int .i64 ix)), (18, (.int .i64 by_)), (109, (.bool false)), (17, (.int .i64 ((data.length : Int) + (target.size : Int)))), (16, (.bool (sameX xs xs))), (15, (.int .i64 0)), (14, v1), (12, (ptr b3 0)), (61, (.bool (decide ((data.length : Int) > 4096)))), (43, (.bool false)), (11, (.int .i64 0)), (10, (.int .i64 2)), (9, (ptr b2 0)), (32, (.bool false)), (8, (ptr u1 0)), (7, (.bool true)), (3, (ptr b1 0)), (0, (.agg #[vn, (.int .i64 ino), (.int .i64 kind), (.int .i64 m), (.int .i64 u'), (.int .i64 gi'), vd, (.string target), vx, (.bool opq)])), (1, (.string s)), (2, (.int .i64 more))] _ _) aq14 (hf5.sub ⟨rfl, rfl, rfl, rfl, rfl, rfl, rfl, rfl, rfl, rfl, rfl, rfl, rfl, rfl, rfl, rfl, rfl, rfl, rfl, rfl, rfl, rfl, rfl, rfl, rfl, rfl, rfl, rfl, rfl, rfl, rfl, rfl, rfl, trivial⟩)
                          refine Rw (.bool ((1 == 1) && ((64 == 64) && true))) w38 (X_eql_struct rfl rfl rfl Try.underlying33 (by kernel_rfl) (by kernel_rfl) (eqF_int rfl Try.underlying3 (by kernel_rfl) rfl rfl (eqF_int rfl Try.underlying3 (by kernel_rfl) rfl rfl (eqF_nil)))) ?_
                          refine Rv (.bool ((1 == 1) && ((64 == 64) && true))) w38 ?_
                          refine Rv (.bool ((1 == 1) && ((64 == 64) && true))) w38 ?_
                          refine wpR_nil ?_
                          refine E_then_normal ?_
                          refine C_ret ?_
                          refine E_ret (res_one rfl rfl) ⟨_, rfl, ?_⟩
                          exact ⟨congrArg Value.bool (by first | (simp; done) | (simp; omega) | (simp_all; done) | (simp_all; omega)), H.toLe⟩
                      · have d16 : ¬ j < 5 := of_decide_eq_false c16
                        refine Rw (.bool false) w34 (eq_bool (by kernel_rfl) c16) ?_
                        iterate 2 refine Rs ?_
                        refine Rv (.bool false) w34 ?_
                        refine wpR_nil ?_
                        refine E_then_normal ?_
                        refine C_false rfl ?_
                        refine C_exit ?_
                        refine E_then_exit ?_
                        refine E_then_exit ?_
                        refine E_block_here ?_
                        refine E_then_normal ?_
                        refine C_seq ?_
                        refine Cs [(204, (.bool false)), (23, (.int .i64 j)), (21, (.int .i64 lk3)), (198, (.bool false)), (163, (.bool false)), (22, (.int .i64 k2)), (20, (.slice (some ⟨b4, 0, none⟩) 5 5)), (149, (.bool (!((2 == 2) && (((128 + (data.length : Int) + (target.size : Int) + sumX xs + (s.size : Int)) == (64 + by_)) && true))))), (119, (.bool (decide (ix < (xs.length : Int))))), (19, (.int .i64 ix)), (18, (.int .i64 by_)), (109, (.bool false)), (17, (.int .i64 ((data.length : Int) + (target.size : Int)))), (16, (.bool (sameX xs xs))), (15, (.int .i64 0)), (14, v1), (13, (.int .i64 0)), (12, (ptr b3 0)), (61, (.bool (decide ((data.length : Int) > 4096)))), (43, (.bool false)), (11, (.int .i64 0)), (10, (.int .i64 2)), (9, (ptr b2 0)), (32, (.bool false)), (8, (ptr u1 0)), (7, (.bool true)), (3, (ptr b1 0)), (0, (.agg #[vn, (.int .i64 ino), (.int .i64 kind), (.int .i64 m), (.int .i64 u'), (.int .i64 gi'), vd, (.string target), vx, (.bool opq)])), (1, (.string s)), (2, (.int .i64 more))] ?_
                        have hR0 : R = [] := hR.fin (by omega)
                        subst hR0
                        refine C_region ?_
                        refine Rv (ptr u1 0) w34 ?_
                        refine Rv (.int .i64 2) w34 ?_
                        refine Rc #[(ptr u1 0), (.int .i64 2)] w34 (statno_S u1 100 100000 3 ([(1, rootU [])]) 2 _ _ _ _ H rfl (by decide)) ?_
                        rintro _ w39 ⟨rfl, l18⟩
                        replace H := H.le l18
                        refine Rv (.tuple #[(.agg #[(.int .i64 0), (.int .i64 0), (.int .i64 0), (.int .i64 0), (.int .i64 0), (.int .i64 0)]), (.int .i64 1)]) w39 ?_
                        refine Rv (.agg #[(.int .i64 0), (.int .i64 0), (.int .i64 0), (.int .i64 0), (.int .i64 0), (.int .i64 0)]) w39 ?_
                        refine Rv (.int .i64 1) w39 ?_
                        refine Rv (.int .i64 1) w39 ?_
                        refine wpR_nil ?_
                        refine E_then_normal ?_
                        refine C_seq ?_
                        refine Cs [(13, (.int .i64 1)), (204, (.bool false)), (23, (.int .i64 j)), (21, (.int .i64 lk3)), (198, (.bool false)), (163, (.bool false)), (22, (.int .i64 k2)), (20, (.slice (some ⟨b4, 0, none⟩) 5 5)), (149, (.bool (!((2 == 2) && (((128 + (data.length : Int) + (target.size : Int) + sumX xs + (s.size : Int)) == (64 + by_)) && true))))), (119, (.bool (decide (ix < (xs.length : Int))))), (19, (.int .i64 ix)), (18, (.int .i64 by_)), (109, (.bool false)), (17, (.int .i64 ((data.length : Int) + (target.size : Int)))), (16, (.bool (sameX xs xs))), (15, (.int .i64 0)), (14, v1), (12, (ptr b3 0)), (61, (.bool (decide ((data.length : Int) > 4096)))), (43, (.bool false)), (11, (.int .i64 0)), (10, (.int .i64 2)), (9, (ptr b2 0)), (32, (.bool false)), (8, (ptr u1 0)), (7, (.bool true)), (3, (ptr b1 0)), (0, (.agg #[vn, (.int .i64 ino), (.int .i64 kind), (.int .i64 m), (.int .i64 u'), (.int .i64 gi'), vd, (.string target), vx, (.bool opq)])), (1, (.string s)), (2, (.int .i64 more))] ?_
                        refine C_drawT 6 [fun _ v => v = (.int .i64 1), fun _ v => v = (.bool true), fun _ v => v = (.bool true), fun _ v => v = (ptr u1 0), fun _ v => v = (.agg #[(.int .i64 1), (.int .i64 64)]), fun _ v => v = (.agg #[(.int .i64 1), (.int .i64 64)])] (by kernel_rfl) (by kernel_rfl) (by kernel_rfl) (by kernel_rfl) ⟨stab_exact _, stab_exact _, stab_exact _, stab_exact _, stab_exact _, stab_exact _, trivial⟩ ⟨?_, ?_, ?_, ?_, ?_, ?_, trivial⟩ ?_
                        · intro aq wd ld hfd hdd
                          have hfd := Fr.cast (s' := [(13, (.int .i64 1)), (204, (.bool false)), (23, (.int .i64 j)), (21, (.int .i64 lk3)), (198, (.bool false)), (163, (.bool false)), (22, (.int .i64 k2)), (20, (.slice (some ⟨b4, 0, none⟩) 5 5)), (149, (.bool (!((2 == 2) && (((128 + (data.length : Int) + (target.size : Int) + sumX xs + (s.size : Int)) == (64 + by_)) && true))))), (119, (.bool (decide (ix < (xs.length : Int))))), (19, (.int .i64 ix)), (18, (.int .i64 by_)), (109, (.bool false)), (17, (.int .i64 ((data.length : Int) + (target.size : Int)))), (16, (.bool (sameX xs xs))), (15, (.int .i64 0)), (14, v1), (12, (ptr b3 0)), (61, (.bool (decide ((data.length : Int) > 4096)))), (43, (.bool false)), (11, (.int .i64 0)), (10, (.int .i64 2)), (9, (ptr b2 0)), (32, (.bool false)), (8, (ptr u1 0)), (7, (.bool true)), (3, (ptr b1 0)), (0, (.agg #[vn, (.int .i64 ino), (.int .i64 kind), (.int .i64 m), (.int .i64 u'), (.int .i64 gi'), vd, (.string target), vx, (.bool opq)])), (1, (.string s)), (2, (.int .i64 more))]) hfd (by kernel_rfl)
                          exact G_val (v := (.int .i64 1)) (w' := wd) hfd rfl (by kernel_rfl) (by kernel_rfl) (Le.refl _) rfl
                        · intro aq wd ld hfd hdd
                          have hfd := Fr.cast (s' := [(13, (.int .i64 1)), (204, (.bool false)), (23, (.int .i64 j)), (21, (.int .i64 lk3)), (198, (.bool false)), (163, (.bool false)), (22, (.int .i64 k2)), (20, (.slice (some ⟨b4, 0, none⟩) 5 5)), (149, (.bool (!((2 == 2) && (((128 + (data.length : Int) + (target.size : Int) + sumX xs + (s.size : Int)) == (64 + by_)) && true))))), (119, (.bool (decide (ix < (xs.length : Int))))), (19, (.int .i64 ix)), (18, (.int .i64 by_)), (109, (.bool false)), (17, (.int .i64 ((data.length : Int) + (target.size : Int)))), (16, (.bool (sameX xs xs))), (15, (.int .i64 0)), (14, v1), (12, (ptr b3 0)), (61, (.bool (decide ((data.length : Int) > 4096)))), (43, (.bool false)), (11, (.int .i64 0)), (10, (.int .i64 2)), (9, (ptr b2 0)), (32, (.bool false)), (8, (ptr u1 0)), (7, (.bool true)), (3, (ptr b1 0)), (0, (.agg #[vn, (.int .i64 ino), (.int .i64 kind), (.int .i64 m), (.int .i64 u'), (.int .i64 gi'), vd, (.string target), vx, (.bool opq)])), (1, (.string s)), (2, (.int .i64 more))]) hfd (by kernel_rfl)
                          obtain ⟨e0, _⟩ := hdd
                          have hfd := Fr.add (t := 230) (v := (.int .i64 1)) hfd e0
                          exact G_val (v := (.bool true)) (w' := wd) hfd rfl (by kernel_rfl) (by kernel_rfl) (Le.refl _) rfl
                        · intro aq wd ld hfd hdd
                          have hfd := Fr.cast (s' := [(13, (.int .i64 1)), (204, (.bool false)), (23, (.int .i64 j)), (21, (.int .i64 lk3)), (198, (.bool false)), (163, (.bool false)), (22, (.int .i64 k2)), (20, (.slice (some ⟨b4, 0, none⟩) 5 5)), (149, (.bool (!((2 == 2) && (((128 + (data.length : Int) + (target.size : Int) + sumX xs + (s.size : Int)) == (64 + by_)) && true))))), (119, (.bool (decide (ix < (xs.length : Int))))), (19, (.int .i64 ix)), (18, (.int .i64 by_)), (109, (.bool false)), (17, (.int .i64 ((data.length : Int) + (target.size : Int)))), (16, (.bool (sameX xs xs))), (15, (.int .i64 0)), (14, v1), (12, (ptr b3 0)), (61, (.bool (decide ((data.length : Int) > 4096)))), (43, (.bool false)), (11, (.int .i64 0)), (10, (.int .i64 2)), (9, (ptr b2 0)), (32, (.bool false)), (8, (ptr u1 0)), (7, (.bool true)), (3, (ptr b1 0)), (0, (.agg #[vn, (.int .i64 ino), (.int .i64 kind), (.int .i64 m), (.int .i64 u'), (.int .i64 gi'), vd, (.string target), vx, (.bool opq)])), (1, (.string s)), (2, (.int .i64 more))]) hfd (by kernel_rfl)
                          obtain ⟨e1, _⟩ := hdd
                          have hfd := Fr.add (t := 231) (v := (.bool true)) hfd e1
                          exact G_val (v := (.bool true)) (w' := wd) hfd rfl (by kernel_rfl) (by kernel_rfl) (Le.refl _) rfl
                        · intro aq wd ld hfd hdd
                          have hfd := Fr.cast (s' := [(13, (.int .i64 1)), (204, (.bool false)), (23, (.int .i64 j)), (21, (.int .i64 lk3)), (198, (.bool false)), (163, (.bool false)), (22, (.int .i64 k2)), (20, (.slice (some ⟨b4, 0, none⟩) 5 5)), (149, (.bool (!((2 == 2) && (((128 + (data.length : Int) + (target.size : Int) + sumX xs + (s.size : Int)) == (64 + by_)) && true))))), (119, (.bool (decide (ix < (xs.length : Int))))), (19, (.int .i64 ix)), (18, (.int .i64 by_)), (109, (.bool false)), (17, (.int .i64 ((data.length : Int) + (target.size : Int)))), (16, (.bool (sameX xs xs))), (15, (.int .i64 0)), (14, v1), (12, (ptr b3 0)), (61, (.bool (decide ((data.length : Int) > 4096)))), (43, (.bool false)), (11, (.int .i64 0)), (10, (.int .i64 2)), (9, (ptr b2 0)), (32, (.bool false)), (8, (ptr u1 0)), (7, (.bool true)), (3, (ptr b1 0)), (0, (.agg #[vn, (.int .i64 ino), (.int .i64 kind), (.int .i64 m), (.int .i64 u'), (.int .i64 gi'), vd, (.string target), vx, (.bool opq)])), (1, (.string s)), (2, (.int .i64 more))]) hfd (by kernel_rfl)
                          obtain ⟨e2, _⟩ := hdd
                          have hfd := Fr.add (t := 232) (v := (.bool true)) hfd e2
                          exact G_val (v := (ptr u1 0)) (w' := wd) hfd rfl (by kernel_rfl) (by kernel_rfl) (Le.refl _) rfl
                        · intro aq wd ld hfd hdd
                          have hfd := Fr.cast (s' := [(13, (.int .i64 1)), (204, (.bool false)), (23, (.int .i64 j)), (21, (.int .i64 lk3)), (198, (.bool false)), (163, (.bool false)), (22, (.int .i64 k2)), (20, (.slice (some ⟨b4, 0, none⟩) 5 5)), (149, (.bool (!((2 == 2) && (((128 + (data.length : Int) + (target.size : Int) + sumX xs + (s.size : Int)) == (64 + by_)) && true))))), (119, (.bool (decide (ix < (xs.length : Int))))), (19, (.int .i64 ix)), (18, (.int .i64 by_)), (109, (.bool false)), (17, (.int .i64 ((data.length : Int) + (target.size : Int)))), (16, (.bool (sameX xs xs))), (15, (.int .i64 0)), (14, v1), (12, (ptr b3 0)), (61, (.bool (decide ((data.length : Int) > 4096)))), (43, (.bool false)), (11, (.int .i64 0)), (10, (.int .i64 2)), (9, (ptr b2 0)), (32, (.bool false)), (8, (ptr u1 0)), (7, (.bool true)), (3, (ptr b1 0)), (0, (.agg #[vn, (.int .i64 ino), (.int .i64 kind), (.int .i64 m), (.int .i64 u'), (.int .i64 gi'), vd, (.string target), vx, (.bool opq)])), (1, (.string s)), (2, (.int .i64 more))]) hfd (by kernel_rfl)
                          obtain ⟨e3, e2, _, _⟩ := hdd
                          have hfd := Fr.add (t := 233) (v := (ptr u1 0)) hfd e3
                          have hfd := Fr.add (t := 232) (v := (.bool true)) hfd e2
                          exact G_call (args := #[(ptr u1 0)]) (w := wd) hfd rfl (by kernel_rfl) (by kernel_rfl) (used_S u1 100 100000 3 ([(1, rootU [])]) _ _ _ _ (H.le ld) 1 64 rfl rfl (by decide)) fun v w' ⟨he, hl⟩ => ⟨hl, he⟩
                        · intro aq wd ld hfd hdd
                          have hfd := Fr.cast (s' := [(13, (.int .i64 1)), (204, (.bool false)), (23, (.int .i64 j)), (21, (.int .i64 lk3)), (198, (.bool false)), (163, (.bool false)), (22, (.int .i64 k2)), (20, (.slice (some ⟨b4, 0, none⟩) 5 5)), (149, (.bool (!((2 == 2) && (((128 + (data.length : Int) + (target.size : Int) + sumX xs + (s.size : Int)) == (64 + by_)) && true))))), (119, (.bool (decide (ix < (xs.length : Int))))), (19, (.int .i64 ix)), (18, (.int .i64 by_)), (109, (.bool false)), (17, (.int .i64 ((data.length : Int) + (target.size : Int)))), (16, (.bool (sameX xs xs))), (15, (.int .i64 0)), (14, v1), (12, (ptr b3 0)), (61, (.bool (decide ((data.length : Int) > 4096)))), (43, (.bool false)), (11, (.int .i64 0)), (10, (.int .i64 2)), (9, (ptr b2 0)), (32, (.bool false)), (8, (ptr u1 0)), (7, (.bool true)), (3, (ptr b1 0)), (0, (.agg #[vn, (.int .i64 ino), (.int .i64 kind), (.int .i64 m), (.int .i64 u'), (.int .i64 gi'), vd, (.string target), vx, (.bool opq)])), (1, (.string s)), (2, (.int .i64 more))]) hfd (by kernel_rfl)
                          obtain ⟨e2, _⟩ := hdd
                          have hfd := Fr.add (t := 232) (v := (.bool true)) hfd e2
                          exact G_val hfd rfl (by kernel_rfl) (load_ev (run_load_row ((H.le ld).blk 2) Try.underlying33 rfl (vs := [(.int .i64 1), (.int .i64 64)]) (by kernel_rfl) rfl) rfl rfl) (Le.refl _) rfl
                        intro aq15 w40 l19 hf6 fa6
                        obtain ⟨_, _, qv14, _, qv15, qv16, _⟩ := fa6
                        have hf6 := Fr.cast (s' := [(13, (.int .i64 1)), (204, (.bool false)), (23, (.int .i64 j)), (21, (.int .i64 lk3)), (198, (.bool false)), (163, (.bool false)), (22, (.int .i64 k2)), (20, (.slice (some ⟨b4, 0, none⟩) 5 5)), (149, (.bool (!((2 == 2) && (((128 + (data.length : Int) + (target.size : Int) + sumX xs + (s.size : Int)) == (64 + by_)) && true))))), (119, (.bool (decide (ix < (xs.length : Int))))), (19, (.int .i64 ix)), (18, (.int .i64 by_)), (109, (.bool false)), (17, (.int .i64 ((data.length : Int) + (target.size : Int)))), (16, (.bool (sameX xs xs))), (15, (.int .i64 0)), (14, v1), (12, (ptr b3 0)), (61, (.bool (decide ((data.length : Int) > 4096)))), (43, (.bool false)), (11, (.int .i64 0)), (10, (.int .i64 2)), (9, (ptr b2 0)), (32, (.bool false)), (8, (ptr u1 0)), (7, (.bool true)), (3, (ptr b1 0)), (0, (.agg #[vn, (.int .i64 ino), (.int .i64 kind), (.int .i64 m), (.int .i64 u'), (.int .i64 gi'), vd, (.string target), vx, (.bool opq)])), (1, (.string s)), (2, (.int .i64 more))]) hf6 (by kernel_rfl)
                        have hf6 := Fr.add (t := 232) (v := (.bool true)) hf6 qv14
                        have hf6 := Fr.add (t := 234) (v := (.agg #[(.int .i64 1), (.int .i64 64)])) hf6 qv15
                        have hf6 := Fr.add (t := 235) (v := (.agg #[(.int .i64 1), (.int .i64 64)])) hf6 qv16
                        replace H := H.le l19
                        refine (?_ : wpR _ _ _ _ [(235, (.agg #[(.int .i64 1), (.int .i64 64)])), (234, (.agg #[(.int .i64 1), (.int .i64 64)])), (232, (.bool true)), (13, (.int .i64 1)), (204, (.bool false)), (23, (.int .i64 j)), (21, (.int .i64 lk3)), (198, (.bool false)), (163, (.bool false)), (22, (.int .i64 k2)), (20, (.slice (some ⟨b4, 0, none⟩) 5 5)), (149, (.bool (!((2 == 2) && (((128 + (data.length : Int) + (target.size : Int) + sumX xs + (s.size : Int)) == (64 + by_)) && true))))), (119, (.bool (decide (ix < (xs.length : Int))))), (19, (.int .i64 ix)), (18, (.int .i64 by_)), (109, (.bool false)), (17, (.int .i64 ((data.length : Int) + (target.size : Int)))), (16, (.bool (sameX xs xs))), (15, (.int .i64 0)), (14, v1), (12, (ptr b3 0)), (61, (.bool (decide ((data.length : Int) > 4096)))), (43, (.bool false)), (11, (.int .i64 0)), (10, (.int .i64 2)), (9, (ptr b2 0)), (32, (.bool false)), (8, (ptr u1 0)), (7, (.bool true)), (3, (ptr b1 0)), (0, (.agg #[vn, (.int .i64 ino), (.int .i64 kind), (.int .i64 m), (.int .i64 u'), (.int .i64 gi'), vd, (.string target), vx, (.bool opq)])), (1, (.string s)), (2, (.int .i64 more))] _ _) aq15 (hf6.sub ⟨rfl, rfl, rfl, rfl, rfl, rfl, rfl, rfl, rfl, rfl, rfl, rfl, rfl, rfl, rfl, rfl, rfl, rfl, rfl, rfl, rfl, rfl, rfl, rfl, rfl, rfl, rfl, rfl, rfl, rfl, rfl, rfl, rfl, trivial⟩)
                        refine Rw (.bool ((1 == 1) && ((64 == 64) && true))) w40 (X_eql_struct rfl rfl rfl Try.underlying33 (by kernel_rfl) (by kernel_rfl) (eqF_int rfl Try.underlying3 (by kernel_rfl) rfl rfl (eqF_int rfl Try.underlying3 (by kernel_rfl) rfl rfl (eqF_nil)))) ?_
                        refine Rv (.bool ((1 == 1) && ((64 == 64) && true))) w40 ?_
                        refine Rv (.bool ((1 == 1) && ((64 == 64) && true))) w40 ?_
                        refine wpR_nil ?_
                        refine E_then_normal ?_
                        refine C_ret ?_
                        refine E_ret (res_one rfl rfl) ⟨_, rfl, ?_⟩
                        exact ⟨congrArg Value.bool (by first | (simp; done) | (simp; omega) | (simp_all; done) | (simp_all; omega)), H.toLe⟩
                · have d7 : ¬ k2 < (kindI more 6) := of_decide_eq_false c7
                  refine Rw (.bool false) w19 (eq_bool (by kernel_rfl) c7) ?_
                  iterate 2 refine Rs ?_
                  refine Rv (.bool false) w19 ?_
                  refine Rv (.bool false) w19 ?_
                  iterate 3 refine Rs ?_
                  refine Rv (.bool false) w19 ?_
                  refine wpR_nil ?_
                  refine E_then_normal ?_
                  refine C_false rfl ?_
                  refine C_exit ?_
                  refine E_then_exit ?_
                  refine E_then_exit ?_
                  refine E_block_here ?_
                  refine E_then_normal ?_
                  refine C_seq ?_
                  refine Cs [(163, (.bool false)), (22, (.int .i64 k2)), (21, (.int .i64 lk)), (20, (.slice (some ⟨b4, 0, none⟩) 5 5)), (149, (.bool (!((2 == 2) && (((128 + (data.length : Int) + (target.size : Int) + sumX xs + (s.size : Int)) == (64 + by_)) && true))))), (119, (.bool (decide (ix < (xs.length : Int))))), (19, (.int .i64 ix)), (18, (.int .i64 by_)), (109, (.bool false)), (17, (.int .i64 ((data.length : Int) + (target.size : Int)))), (16, (.bool (sameX xs xs))), (15, (.int .i64 0)), (14, v1), (13, (.int .i64 0)), (12, (ptr b3 0)), (61, (.bool (decide ((data.length : Int) > 4096)))), (43, (.bool false)), (11, (.int .i64 0)), (10, (.int .i64 2)), (9, (ptr b2 0)), (32, (.bool false)), (8, (ptr u1 0)), (7, (.bool true)), (3, (ptr b1 0)), (0, (.agg #[vn, (.int .i64 ino), (.int .i64 kind), (.int .i64 m), (.int .i64 u'), (.int .i64 gi'), vd, (.string target), vx, (.bool opq)])), (1, (.string s)), (2, (.int .i64 more))] ?_
                  refine C_region ?_
                  refine Rv (ptr u1 0) w19 ?_
                  refine Rv (.int .i64 2) w19 ?_
                  refine Rc #[(ptr u1 0), (.int .i64 2)] w19 (stat_S u1 100 100000 3 (stL ⟨kind, m, u', gi', data, target, xs⟩ E) 2 ({ newU ⟨kind, m, u', gi', data, target, xs⟩ 1 with links := (E.length : Int) }) _ _ _ _ (H.pick 1) rfl (by show data.length + target.size + 0 ≤ _; omega) (by decide)) ?_
                  rintro _ w41 ⟨rfl, l20⟩
                  replace H := H.le l20
                  refine Rv (.tuple #[(.agg #[(.int .i64 kind), (.int .i64 m), (.int .i64 u'), (.int .i64 gi'), (.int .i64 (E.length : Int)), (.int .i64 ((data.length : Int) + (target.size : Int) + ((0 : Nat) : Int)))]), (.int .i64 0)]) w41 ?_
                  refine Rv (.agg #[(.int .i64 kind), (.int .i64 m), (.int .i64 u'), (.int .i64 gi'), (.int .i64 (E.length : Int)), (.int .i64 ((data.length : Int) + (target.size : Int) + ((0 : Nat) : Int)))]) w41 ?_
                  refine Rv (.int .i64 0) w41 ?_
                  refine S_store (H.blk 0) rfl rfl rfl rfl rfl (by kernel_rfl) rfl (Nat.le_of_ble_eq_true rfl) #[(.int .i64 kind), (.int .i64 m), (.int .i64 u'), (.int .i64 gi'), (.int .i64 (E.length : Int)), (.int .i64 ((data.length : Int) + (target.size : Int) + ((0 : Nat) : Int)))] rfl fun w42 u6 => ?_
                  replace H := H.upd 0 u6
                  refine wpR_nil ?_
                  refine E_then_normal ?_
                  refine C_seq ?_
                  refine C_seq ?_
                  refine Cs [(163, (.bool false)), (22, (.int .i64 k2)), (21, (.int .i64 lk)), (20, (.slice (some ⟨b4, 0, none⟩) 5 5)), (149, (.bool (!((2 == 2) && (((128 + (data.length : Int) + (target.size : Int) + sumX xs + (s.size : Int)) == (64 + by_)) && true))))), (119, (.bool (decide (ix < (xs.length : Int))))), (19, (.int .i64 ix)), (18, (.int .i64 by_)), (109, (.bool false)), (17, (.int .i64 ((data.length : Int) + (target.size : Int)))), (16, (.bool (sameX xs xs))), (15, (.int .i64 0)), (14, v1), (13, (.int .i64 0)), (12, (ptr b3 0)), (61, (.bool (decide ((data.length : Int) > 4096)))), (43, (.bool false)), (11, (.int .i64 0)), (10, (.int .i64 2)), (9, (ptr b2 0)), (32, (.bool false)), (8, (ptr u1 0)), (7, (.bool true)), (3, (ptr b1 0)), (0, (.agg #[vn, (.int .i64 ino), (.int .i64 kind), (.int .i64 m), (.int .i64 u'), (.int .i64 gi'), vd, (.string target), vx, (.bool opq)])), (1, (.string s)), (2, (.int .i64 more))] ?_
                  refine C_region ?_
                  refine Rv (ptr b3 4) w42 ?_
                  refine S_load (run_load_one (H.blk 0) Try.underlying3 rfl rfl) rfl rfl rfl rfl rfl ?_
                  refine Rv (.int .i64 lk) w42 ?_
                  refine Rw (.int .i64 (1 + lk)) w42 (eq_int (by kernel_rfl) (wrap64_in (by first | decide | omega | exact nm_size (by omega) (by omega) | (simp; omega)) (by first | decide | omega | exact nm_size (by omega) (by omega) | (simp; omega)))) ?_
                  refine Rv (.bool ((E.length : Int) != (1 + lk))) w42 ?_
                  rcases Bool.eq_false_or_eq_true ((E.length : Int) != (1 + lk)) with c19 | c19
                  · have d19 : (E.length : Int) ≠ (1 + lk) := bne_iff_ne.1 c19
                    refine Rw (.bool true) w42 (eq_bool (by kernel_rfl) c19) ?_
                    iterate 4 refine Rs ?_
                    refine Rv (.bool true) w42 ?_
                    refine wpR_nil ?_
                    refine E_then_normal ?_
                    refine C_true rfl ?_
                    refine C_seq ?_
                    refine Cs [(198, (.bool true)), (163, (.bool false)), (22, (.int .i64 k2)), (21, (.int .i64 lk)), (20, (.slice (some ⟨b4, 0, none⟩) 5 5)), (149, (.bool (!((2 == 2) && (((128 + (data.length : Int) + (target.size : Int) + sumX xs + (s.size : Int)) == (64 + by_)) && true))))), (119, (.bool (decide (ix < (xs.length : Int))))), (19, (.int .i64 ix)), (18, (.int .i64 by_)), (109, (.bool false)), (17, (.int .i64 ((data.length : Int) + (target.size : Int)))), (16, (.bool (sameX xs xs))), (15, (.int .i64 0)), (14, v1), (13, (.int .i64 0)), (12, (ptr b3 0)), (61, (.bool (decide ((data.length : Int) > 4096)))), (43, (.bool false)), (11, (.int .i64 0)), (10, (.int .i64 2)), (9, (ptr b2 0)), (32, (.bool false)), (8, (ptr u1 0)), (7, (.bool true)), (3, (ptr b1 0)), (0, (.agg #[vn, (.int .i64 ino), (.int .i64 kind), (.int .i64 m), (.int .i64 u'), (.int .i64 gi'), vd, (.string target), vx, (.bool opq)])), (1, (.string s)), (2, (.int .i64 more))] ?_
                    refine C_region ?_
                    refine Rv (.bool false) w42 ?_
                    refine wpR_nil ?_
                    refine E_then_normal ?_
                    refine C_ret ?_
                    refine E_then_ret ?_
                    refine E_ret (res_one rfl rfl) ⟨_, rfl, ?_⟩
                    exfalso; first | omega | (simp_all; done) | (simp_all; omega) | (revert c19; simp [sameX_refl]; done) | (revert c19; simp [sameX_refl]; omega)
                  · have d19 : (E.length : Int) = (1 + lk) := bne_eq_false_iff_eq.1 c19
                    refine Rw (.bool false) w42 (eq_bool (by kernel_rfl) c19) ?_
                    refine Rv (ptr u1 0) w42 ?_
                    refine Rv (.string s) w42 ?_
                    replace H := H.pick 1
                    refine Rc #[(ptr u1 0), (.int .i64 1), (.string s)] w42 (remove_S u1 100 100000 3 (stL ⟨kind, m, u', gi', data, target, xs⟩ E) 1 s _ _ _ _ H 0 (stR ⟨kind, m, u', gi', data, target, xs⟩ (delK E s)) (rmL hE2.get) (rmLS hE2.nodup hE2.get) (by decide) (by first | decide | omega | exact nm_size (by omega) (by omega) | (simp; omega)) (hexL (by omega) (fun v hv => by rw [hE2.get] at hv; exact (Option.some.inj hv).symm))) ?_
                    rintro _ w43 ⟨g11, m14, Hn, rfl⟩
                    replace H := Hn
                    clear Hn
                    refine Rv (.bool false) w43 ?_
                    refine Rv (.bool false) w43 ?_
                    refine wpR_nil ?_
                    refine E_then_normal ?_
                    refine C_false rfl ?_
                    refine C_skip ?_
                    refine E_then_normal ?_
                    refine C_seq ?_
                    refine C_seq ?_
                    refine Cs [(198, (.bool false)), (163, (.bool false)), (22, (.int .i64 k2)), (21, (.int .i64 lk)), (20, (.slice (some ⟨b4, 0, none⟩) 5 5)), (149, (.bool (!((2 == 2) && (((128 + (data.length : Int) + (target.size : Int) + sumX xs + (s.size : Int)) == (64 + by_)) && true))))), (119, (.bool (decide (ix < (xs.length : Int))))), (19, (.int .i64 ix)), (18, (.int .i64 by_)), (109, (.bool false)), (17, (.int .i64 ((data.length : Int) + (target.size : Int)))), (16, (.bool (sameX xs xs))), (15, (.int .i64 0)), (14, v1), (13, (.int .i64 0)), (12, (ptr b3 0)), (61, (.bool (decide ((data.length : Int) > 4096)))), (43, (.bool false)), (11, (.int .i64 0)), (10, (.int .i64 2)), (9, (ptr b2 0)), (32, (.bool false)), (8, (ptr u1 0)), (7, (.bool true)), (3, (ptr b1 0)), (0, (.agg #[vn, (.int .i64 ino), (.int .i64 kind), (.int .i64 m), (.int .i64 u'), (.int .i64 gi'), vd, (.string target), vx, (.bool opq)])), (1, (.string s)), (2, (.int .i64 more))] ?_
                    refine C_region ?_
                    refine Rv (.int .i64 0) w43 ?_
                    refine wpR_nil ?_
                    refine E_then_normal ?_
                    refine C_block ?_
                    refine C_loop (ι := Int × Int × List (ByteArray × Int)) (fun (i : Int × Int × List (ByteArray × Int)) => match i with | (j, lk3, R) => [(23, (.int .i64 j)), (21, (.int .i64 lk3)), (198, (.bool false)), (163, (.bool false)), (22, (.int .i64 k2)), (20, (.slice (some ⟨b4, 0, none⟩) 5 5)), (149, (.bool (!((2 == 2) && (((128 + (data.length : Int) + (target.size : Int) + sumX xs + (s.size : Int)) == (64 + by_)) && true))))), (119, (.bool (decide (ix < (xs.length : Int))))), (19, (.int .i64 ix)), (18, (.int .i64 by_)), (109, (.bool false)), (17, (.int .i64 ((data.length : Int) + (target.size : Int)))), (16, (.bool (sameX xs xs))), (15, (.int .i64 0)), (14, v1), (13, (.int .i64 0)), (12, (ptr b3 0)), (61, (.bool (decide ((data.length : Int) > 4096)))), (43, (.bool false)), (11, (.int .i64 0)), (10, (.int .i64 2)), (9, (ptr b2 0)), (32, (.bool false)), (8, (ptr u1 0)), (7, (.bool true)), (3, (ptr b1 0)), (0, (.agg #[vn, (.int .i64 ino), (.int .i64 kind), (.int .i64 m), (.int .i64 u'), (.int .i64 gi'), vd, (.string target), vx, (.bool opq)])), (1, (.string s)), (2, (.int .i64 more))]) (fun (i : Int × Int × List (ByteArray × Int)) w' => match i with | (j, lk3, R) => ∃ gl3 : World, 0 ≤ j ∧ j ≤ 5 ∧ (R.length : Int) = lk3 ∧ lk3 ≤ 5 ∧ In3 s j R ∧ Mono g11 gl3 ∧ SL ⟨w, g⟩ gl3 w' [upS Try.prog uty u1 100 100000 3 (stR ⟨kind, m, u', gi', data, target, xs⟩ R), blk b3 #[(.int .i64 kind), (.int .i64 m), (.int .i64 u'), (.int .i64 gi'), (.int .i64 (E.length : Int)), (.int .i64 ((data.length : Int) + (target.size : Int) + ((0 : Nat) : Int)))] 39, blk b2 #[(.int .i64 1), (.int .i64 64)] 33, blk b1 #[vn, (.int .i64 ino), (.int .i64 kind), (.int .i64 m), (.int .i64 u'), (.int .i64 gi'), vd, (.string target), vx, (.bool opq)] 28]) (fun (i : Int × Int × List (ByteArray × Int)) => match i with | (j, lk3, R) => (5 - j).toNat) (0, lk, (delK E s)) ⟨rfl, rfl, rfl, rfl, rfl, rfl, rfl, rfl, rfl, rfl, rfl, rfl, rfl, rfl, rfl, rfl, rfl, rfl, rfl, rfl, rfl, rfl, rfl, rfl, rfl, rfl, rfl, rfl, rfl, trivial⟩ ⟨g11, by omega, by omega, by have q := delK_len hE2.nodup hE2.get; omega, by omega, hE2.del (by omega), Mono.refl _, H⟩ ?_
                    clear H
                    rintro ⟨j, lk3, R⟩ w44 ⟨gl3, hj0, hj5, hRl, hl5, hR, m15, H⟩
                    refine Cs [(23, (.int .i64 j)), (21, (.int .i64 lk3)), (198, (.bool false)), (163, (.bool false)), (22, (.int .i64 k2)), (20, (.slice (some ⟨b4, 0, none⟩) 5 5)), (149, (.bool (!((2 == 2) && (((128 + (data.length : Int) + (target.size : Int) + sumX xs + (s.size : Int)) == (64 + by_)) && true))))), (119, (.bool (decide (ix < (xs.length : Int))))), (19, (.int .i64 ix)), (18, (.int .i64 by_)), (109, (.bool false)), (17, (.int .i64 ((data.length : Int) + (target.size : Int)))), (16, (.bool (sameX xs xs))), (15, (.int .i64 0)), (14, v1), (13, (.int .i64 0)), (12, (ptr b3 0)), (61, (.bool (decide ((data.length : Int) > 4096)))), (43, (.bool false)), (11, (.int .i64 0)), (10, (.int .i64 2)), (9, (ptr b2 0)), (32, (.bool false)), (8, (ptr u1 0)), (7, (.bool true)), (3, (ptr b1 0)), (0, (.agg #[vn, (.int .i64 ino), (.int .i64 kind), (.int .i64 m), (.int .i64 u'), (.int .i64 gi'), vd, (.string target), vx, (.bool opq)])), (1, (.string s)), (2, (.int .i64 more))] ?_
                    refine C_seq ?_
                    refine C_seq ?_
                    refine C_region ?_
                    refine Rv (.int .i64 j) w44 ?_
                    refine Rv (.bool (decide (j < 5))) w44 ?_
                    rcases Bool.eq_false_or_eq_true (decide (j < 5)) with c20 | c20
                    · have d20 : j < 5 := of_decide_eq_true c20
                      refine Rw (.bool true) w44 (eq_bool (by kernel_rfl) c20) ?_
                      refine Rv (.int .i64 lk3) w44 ?_
                      refine Rv (.bool (decide (lk3 > 0))) w44 ?_
                      refine Rv (.bool (decide (lk3 > 0))) w44 ?_
                      refine wpR_nil ?_
                      refine E_then_normal ?_
                      refine C_cond rfl (fun c21 => ?_) (fun c21 => ?_)
                      · have d21 : lk3 > 0 := of_decide_eq_true c21
                        refine C_skip ?_
                        refine E_then_normal ?_
                        refine C_seq ?_
                        refine C_block ?_
                        refine C_seq ?_
                        refine Cs [(204, (.bool (decide (lk3 > 0)))), (23, (.int .i64 j)), (21, (.int .i64 lk3)), (198, (.bool false)), (163, (.bool false)), (22, (.int .i64 k2)), (20, (.slice (some ⟨b4, 0, none⟩) 5 5)), (149, (.bool (!((2 == 2) && (((128 + (data.length : Int) + (target.size : Int) + sumX xs + (s.size : Int)) == (64 + by_)) && true))))), (119, (.bool (decide (ix < (xs.length : Int))))), (19, (.int .i64 ix)), (18, (.int .i64 by_)), (109, (.bool false)), (17, (.int .i64 ((data.length : Int) + (target.size : Int)))), (16, (.bool (sameX xs xs))), (15, (.int .i64 0)), (14, v1), (13, (.int .i64 0)), (12, (ptr b3 0)), (61, (.bool (decide ((data.length : Int) > 4096)))), (43, (.bool false)), (11, (.int .i64 0)), (10, (.int .i64 2)), (9, (ptr b2 0)), (32, (.bool false)), (8, (ptr u1 0)), (7, (.bool true)), (3, (ptr b1 0)), (0, (.agg #[vn, (.int .i64 ino), (.int .i64 kind), (.int .i64 m), (.int .i64 u'), (.int .i64 gi'), vd, (.string target), vx, (.bool opq)])), (1, (.string s)), (2, (.int .i64 more))] ?_
                        refine C_region ?_
                        refine Rv (.slice (some ⟨b4, 0, none⟩) 5 5) w44 ?_
                        refine Rv (.int .i64 j) w44 ?_
                        refine Rw (elemP 1 (.slice (some ⟨b4, 0, none⟩) 5 5) j) w44 (X_indexAddr ((hx3.mono ((m4.trans m14).trans m15)).mono H.m) (by first | decide | omega | exact nm_size (by omega) (by omega) | (simp; omega)) (by first | decide | omega | exact nm_size (by omega) (by omega) | (simp; omega)) rfl Try.underlying22 (by kernel_rfl) rfl rfl) ?_
                        refine Rw (.string (nth NM j)) w44 (X_load rfl rfl (run_load_str ((hx3.mono ((m4.trans m14).trans m15)).mono H.m) (by first | decide | omega | exact nm_size (by omega) (by omega) | (simp; omega)) (by first | decide | omega | exact nm_size (by omega) (by omega) | (simp; omega)) Try.underlying9 (by kernel_rfl))) ?_
                        refine Rv (.string s) w44 ?_
                        refine Rv (.bool (!((nth NM j).toList == s.toList))) w44 ?_
                        rcases Bool.eq_false_or_eq_true (!((nth NM j).toList == s.toList)) with c22 | c22
                        · refine Rw (.bool true) w44 (eq_bool (by kernel_rfl) c22) ?_
                          refine Rv (ptr u1 0) w44 ?_
                          refine Rv (.slice (some ⟨b4, 0, none⟩) 5 5) w44 ?_
                          refine Rv (.int .i64 j) w44 ?_
                          refine Rw (elemP 1 (.slice (some ⟨b4, 0, none⟩) 5 5) j) w44 (X_indexAddr ((hx3.mono ((m4.trans m14).trans m15)).mono H.m) (by first | decide | omega | exact nm_size (by omega) (by omega) | (simp; omega)) (by first | decide | omega | exact nm_size (by omega) (by omega) | (simp; omega)) rfl Try.underlying22 (by kernel_rfl) rfl rfl) ?_
                          refine Rw (.string (nth NM j)) w44 (X_load rfl rfl (run_load_str ((hx3.mono ((m4.trans m14).trans m15)).mono H.m) (by first | decide | omega | exact nm_size (by omega) (by omega) | (simp; omega)) (by first | decide | omega | exact nm_size (by omega) (by omega) | (simp; omega)) Try.underlying9 (by kernel_rfl))) ?_
                          have hRne : R ≠ [] := fun e => by rw [e] at hRl; simp at hRl; omega
                          rcases hg4 : getK R (nth NM j) with _ | x3
                          · refine Rc #[(ptr u1 0), (.int .i64 1), (.string (nth NM j))] w44 (remove_S u1 100 100000 3 (stR ⟨kind, m, u', gi', data, target, xs⟩ R) 1 (nth NM j) _ _ _ _ H 20 (stR ⟨kind, m, u', gi', data, target, xs⟩ R) (by rw [stR_pos hRne]; exact rmNoL hg4) (by rw [stR_pos hRne]; exact rmNoLS hg4) (by decide) (by first | decide | omega | exact nm_size (by omega) (by omega) | (simp; omega)) (by rw [stR_pos hRne]; exact hexL (by omega) (fun v hv => hR.get2 hv))) ?_
                            rintro _ w45 ⟨g12, m16, Hn, rfl⟩
                            replace H := Hn
                            clear Hn
                            refine Rv (.bool false) w45 ?_
                            refine Rv (.bool false) w45 ?_
                            refine wpR_nil ?_
                            refine E_then_normal ?_
                            refine C_false rfl ?_
                            refine C_skip ?_
                            refine E_block_normal ?_
                            refine E_then_normal ?_
                            refine Cs [(221, (.bool false)), (204, (.bool (decide (lk3 > 0)))), (23, (.int .i64 j)), (21, (.int .i64 lk3)), (198, (.bool false)), (163, (.bool false)), (22, (.int .i64 k2)), (20, (.slice (some ⟨b4, 0, none⟩) 5 5)), (149, (.bool (!((2 == 2) && (((128 + (data.length : Int) + (target.size : Int) + sumX xs + (s.size : Int)) == (64 + by_)) && true))))), (119, (.bool (decide (ix < (xs.length : Int))))), (19, (.int .i64 ix)), (18, (.int .i64 by_)), (109, (.bool false)), (17, (.int .i64 ((data.length : Int) + (target.size : Int)))), (16, (.bool (sameX xs xs))), (15, (.int .i64 0)), (14, v1), (13, (.int .i64 0)), (12, (ptr b3 0)), (61, (.bool (decide ((data.length : Int) > 4096)))), (43, (.bool false)), (11, (.int .i64 0)), (10, (.int .i64 2)), (9, (ptr b2 0)), (32, (.bool false)), (8, (ptr u1 0)), (7, (.bool true)), (3, (ptr b1 0)), (0, (.agg #[vn, (.int .i64 ino), (.int .i64 kind), (.int .i64 m), (.int .i64 u'), (.int .i64 gi'), vd, (.string target), vx, (.bool opq)])), (1, (.string s)), (2, (.int .i64 more))] ?_
                            refine C_region ?_
                            refine Rv (.int .i64 j) w45 ?_
                            refine Rw (.int .i64 (j + 1)) w45 (eq_int (by kernel_rfl) (wrap64_in (by first | decide | omega | exact nm_size (by omega) (by omega) | (simp; omega)) (by first | decide | omega | exact nm_size (by omega) (by omega) | (simp; omega)))) ?_
                            refine Rv (.int .i64 (j + 1)) w45 ?_
                            refine wpR_nil ?_
                            replace H := H.pick 3
                            replace H := H.pick 3
                            replace H := H.pick 3
                            replace H := H.pick 3
                            refine E_then_mid fun aq16 ha10 => ⟨(j + 1, lk3, R), ha10.sub ⟨rfl, rfl, rfl, rfl, rfl, rfl, rfl, rfl, rfl, rfl, rfl, rfl, rfl, rfl, rfl, rfl, rfl, rfl, rfl, rfl, rfl, rfl, rfl, rfl, rfl, rfl, rfl, rfl, rfl, trivial⟩, ⟨g12, by omega, by omega, by first | omega | (have q := delK_len hR.nodup hg4; omega), by omega, hR.skip (.inr hg4), (m15.trans m16), H⟩, ?_⟩
                            (first | omega | (dsimp only; omega))
                          · obtain rfl := hR.get2 hg4
                            refine Rc #[(ptr u1 0), (.int .i64 1), (.string (nth NM j))] w44 (remove_S u1 100 100000 3 (stR ⟨kind, m, u', gi', data, target, xs⟩ R) 1 (nth NM j) _ _ _ _ H 0 (stR ⟨kind, m, u', gi', data, target, xs⟩ (delK R (nth NM j))) (by rw [stR_pos hRne]; exact rmL hg4) (by rw [stR_pos hRne]; exact rmLS hR.nodup hg4) (by decide) (by first | decide | omega | exact nm_size (by omega) (by omega) | (simp; omega)) (by rw [stR_pos hRne]; exact hexL (by omega) (fun v hv => hR.get2 hv))) ?_
                            rintro _ w46 ⟨g13, m17, Hn, rfl⟩
                            replace H := Hn
                            clear Hn
                            refine Rv (.bool true) w46 ?_
                            refine Rv (.bool true) w46 ?_
                            refine wpR_nil ?_
                            refine E_then_normal ?_
                            refine C_true rfl ?_
                            refine Cs [(221, (.bool true)), (204, (.bool (decide (lk3 > 0)))), (23, (.int .i64 j)), (21, (.int .i64 lk3)), (198, (.bool false)), (163, (.bool false)), (22, (.int .i64 k2)), (20, (.slice (some ⟨b4, 0, none⟩) 5 5)), (149, (.bool (!((2 == 2) && (((128 + (data.length : Int) + (target.size : Int) + sumX xs + (s.size : Int)) == (64 + by_)) && true))))), (119, (.bool (decide (ix < (xs.length : Int))))), (19, (.int .i64 ix)), (18, (.int .i64 by_)), (109, (.bool false)), (17, (.int .i64 ((data.length : Int) + (target.size : Int)))), (16, (.bool (sameX xs xs))), (15, (.int .i64 0)), (14, v1), (13, (.int .i64 0)), (12, (ptr b3 0)), (61, (.bool (decide ((data.length : Int) > 4096)))), (43, (.bool false)), (11, (.int .i64 0)), (10, (.int .i64 2)), (9, (ptr b2 0)), (32, (.bool false)), (8, (ptr u1 0)), (7, (.bool true)), (3, (ptr b1 0)), (0, (.agg #[vn, (.int .i64 ino), (.int .i64 kind), (.int .i64 m), (.int .i64 u'), (.int .i64 gi'), vd, (.string target), vx, (.bool opq)])), (1, (.string s)), (2, (.int .i64 more))] ?_
                            refine C_region ?_
                            refine Rv (.int .i64 lk3) w46 ?_
                            refine Rw (.int .i64 (lk3 - 1)) w46 (eq_int (by kernel_rfl) (wrap64_in (by first | decide | omega | exact nm_size (by omega) (by omega) | (simp; omega)) (by first | decide | omega | exact nm_size (by omega) (by omega) | (simp; omega)))) ?_
                            refine Rv (.int .i64 (lk3 - 1)) w46 ?_
                            refine wpR_nil ?_
                            refine E_block_normal ?_
                            refine E_then_normal ?_
                            refine Cs [(21, (.int .i64 (lk3 - 1))), (221, (.bool true)), (204, (.bool (decide (lk3 > 0)))), (23, (.int .i64 j)), (198, (.bool false)), (163, (.bool false)), (22, (.int .i64 k2)), (20, (.slice (some ⟨b4, 0, none⟩) 5 5)), (149, (.bool (!((2 == 2) && (((128 + (data.length : Int) + (target.size : Int) + sumX xs + (s.size : Int)) == (64 + by_)) && true))))), (119, (.bool (decide (ix < (xs.length : Int))))), (19, (.int .i64 ix)), (18, (.int .i64 by_)), (109, (.bool false)), (17, (.int .i64 ((data.length : Int) + (target.size : Int)))), (16, (.bool (sameX xs xs))), (15, (.int .i64 0)), (14, v1), (13, (.int .i64 0)), (12, (ptr b3 0)), (61, (.bool (decide ((data.length : Int) > 4096)))), (43, (.bool false)), (11, (.int .i64 0)), (10, (.int .i64 2)), (9, (ptr b2 0)), (32, (.bool false)), (8, (ptr u1 0)), (7, (.bool true)), (3, (ptr b1 0)), (0, (.agg #[vn, (.int .i64 ino), (.int .i64 kind), (.int .i64 m), (.int .i64 u'), (.int .i64 gi'), vd, (.string target), vx, (.bool opq)])), (1, (.string s)), (2, (.int .i64 more))] ?_
                            refine C_region ?_
                            refine Rv (.int .i64 j) w46 ?_
                            refine Rw (.int .i64 (j + 1)) w46 (eq_int (by kernel_rfl) (wrap64_in (by first | decide | omega | exact nm_size (by omega) (by omega) | (simp; omega)) (by first | decide | omega | exact nm_size (by omega) (by omega) | (simp; omega)))) ?_
                            refine Rv (.int .i64 (j + 1)) w46 ?_
                            refine wpR_nil ?_
                            replace H := H.pick 3
                            replace H := H.pick 3
                            replace H := H.pick 3
                            replace H := H.pick 3
                            refine E_then_mid fun aq17 ha11 => ⟨(j + 1, lk3 - 1, (delK R (nth NM j))), ha11.sub ⟨rfl, rfl, rfl, rfl, rfl, rfl, rfl, rfl, rfl, rfl, rfl, rfl, rfl, rfl, rfl, rfl, rfl, rfl, rfl, rfl, rfl, rfl, rfl, rfl, rfl, rfl, rfl, rfl, rfl, trivial⟩, ⟨g13, by omega, by omega, by first | omega | (have q := delK_len hR.nodup hg4; omega), by omega, hR.take, (m15.trans m17), H⟩, ?_⟩
                            (first | omega | (dsimp only; omega))
                        · refine Rw (.bool false) w44 (eq_bool (by kernel_rfl) c22) ?_
                          iterate 7 refine Rs ?_
                          refine Rv (.bool false) w44 ?_
                          refine wpR_nil ?_
                          refine E_then_normal ?_
                          refine C_false rfl ?_
                          refine C_skip ?_
                          refine E_block_normal ?_
                          refine E_then_normal ?_
                          refine Cs [(221, (.bool false)), (204, (.bool (decide (lk3 > 0)))), (23, (.int .i64 j)), (21, (.int .i64 lk3)), (198, (.bool false)), (163, (.bool false)), (22, (.int .i64 k2)), (20, (.slice (some ⟨b4, 0, none⟩) 5 5)), (149, (.bool (!((2 == 2) && (((128 + (data.length : Int) + (target.size : Int) + sumX xs + (s.size : Int)) == (64 + by_)) && true))))), (119, (.bool (decide (ix < (xs.length : Int))))), (19, (.int .i64 ix)), (18, (.int .i64 by_)), (109, (.bool false)), (17, (.int .i64 ((data.length : Int) + (target.size : Int)))), (16, (.bool (sameX xs xs))), (15, (.int .i64 0)), (14, v1), (13, (.int .i64 0)), (12, (ptr b3 0)), (61, (.bool (decide ((data.length : Int) > 4096)))), (43, (.bool false)), (11, (.int .i64 0)), (10, (.int .i64 2)), (9, (ptr b2 0)), (32, (.bool false)), (8, (ptr u1 0)), (7, (.bool true)), (3, (ptr b1 0)), (0, (.agg #[vn, (.int .i64 ino), (.int .i64 kind), (.int .i64 m), (.int .i64 u'), (.int .i64 gi'), vd, (.string target), vx, (.bool opq)])), (1, (.string s)), (2, (.int .i64 more))] ?_
                          refine C_region ?_
                          refine Rv (.int .i64 j) w44 ?_
                          refine Rw (.int .i64 (j + 1)) w44 (eq_int (by kernel_rfl) (wrap64_in (by first | decide | omega | exact nm_size (by omega) (by omega) | (simp; omega)) (by first | decide | omega | exact nm_size (by omega) (by omega) | (simp; omega)))) ?_
                          refine Rv (.int .i64 (j + 1)) w44 ?_
                          refine wpR_nil ?_
                          replace H := H.pick 3
                          replace H := H.pick 3
                          replace H := H.pick 3
                          replace H := H.pick 3
                          refine E_then_mid fun aq18 ha12 => ⟨(j + 1, lk3, R), ha12.sub ⟨rfl, rfl, rfl, rfl, rfl, rfl, rfl, rfl, rfl, rfl, rfl, rfl, rfl, rfl, rfl, rfl, rfl, rfl, rfl, rfl, rfl, rfl, rfl, rfl, rfl, rfl, rfl, rfl, rfl, trivial⟩, ⟨gl3, by omega, by omega, by first | omega | (have q := delK_len hR.nodup hRl; omega), by omega, hR.skip (.inl (eq_of_list c22)), m15, H⟩, ?_⟩
                          (first | omega | (dsimp only; omega))
                      · have d21 : ¬ lk3 > 0 := of_decide_eq_false c21
                        refine C_exit ?_
                        refine E_then_exit ?_
                        refine E_then_exit ?_
                        refine E_block_here ?_
                        refine E_then_normal ?_
                        refine C_seq ?_
                        refine Cs [(204, (.bool (decide (lk3 > 0)))), (23, (.int .i64 j)), (21, (.int .i64 lk3)), (198, (.bool false)), (163, (.bool false)), (22, (.int .i64 k2)), (20, (.slice (some ⟨b4, 0, none⟩) 5 5)), (149, (.bool (!((2 == 2) && (((128 + (data.length : Int) + (target.size : Int) + sumX xs + (s.size : Int)) == (64 + by_)) && true))))), (119, (.bool (decide (ix < (xs.length : Int))))), (19, (.int .i64 ix)), (18, (.int .i64 by_)), (109, (.bool false)), (17, (.int .i64 ((data.length : Int) + (target.size : Int)))), (16, (.bool (sameX xs xs))), (15, (.int .i64 0)), (14, v1), (13, (.int .i64 0)), (12, (ptr b3 0)), (61, (.bool (decide ((data.length : Int) > 4096)))), (43, (.bool false)), (11, (.int .i64 0)), (10, (.int .i64 2)), (9, (ptr b2 0)), (32, (.bool false)), (8, (ptr u1 0)), (7, (.bool true)), (3, (ptr b1 0)), (0, (.agg #[vn, (.int .i64 ino), (.int .i64 kind), (.int .i64 m), (.int .i64 u'), (.int .i64 gi'), vd, (.string target), vx, (.bool opq)])), (1, (.string s)), (2, (.int .i64 more))] ?_
                        have hR0 : R = [] := hR.fin (by omega)
                        subst hR0
                        refine C_region ?_
                        refine Rv (ptr u1 0) w44 ?_
                        refine Rv (.int .i64 2) w44 ?_
                        refine Rc #[(ptr u1 0), (.int .i64 2)] w44 (statno_S u1 100 100000 3 ([(1, rootU [])]) 2 _ _ _ _ H rfl (by decide)) ?_
                        rintro _ w47 ⟨rfl, l21⟩
                        replace H := H.le l21
                        refine Rv (.tuple #[(.agg #[(.int .i64 0), (.int .i64 0), (.int .i64 0), (.int .i64 0), (.int .i64 0), (.int .i64 0)]), (.int .i64 1)]) w47 ?_
                        refine Rv (.agg #[(.int .i64 0), (.int .i64 0), (.int .i64 0), (.int .i64 0), (.int .i64 0), (.int .i64 0)]) w47 ?_
                        refine Rv (.int .i64 1) w47 ?_
                        refine Rv (.int .i64 1) w47 ?_
                        refine wpR_nil ?_
                        refine E_then_normal ?_
                        refine C_seq ?_
                        refine Cs [(13, (.int .i64 1)), (204, (.bool (decide (lk3 > 0)))), (23, (.int .i64 j)), (21, (.int .i64 lk3)), (198, (.bool false)), (163, (.bool false)), (22, (.int .i64 k2)), (20, (.slice (some ⟨b4, 0, none⟩) 5 5)), (149, (.bool (!((2 == 2) && (((128 + (data.length : Int) + (target.size : Int) + sumX xs + (s.size : Int)) == (64 + by_)) && true))))), (119, (.bool (decide (ix < (xs.length : Int))))), (19, (.int .i64 ix)), (18, (.int .i64 by_)), (109, (.bool false)), (17, (.int .i64 ((data.length : Int) + (target.size : Int)))), (16, (.bool (sameX xs xs))), (15, (.int .i64 0)), (14, v1), (12, (ptr b3 0)), (61, (.bool (decide ((data.length : Int) > 4096)))), (43, (.bool false)), (11, (.int .i64 0)), (10, (.int .i64 2)), (9, (ptr b2 0)), (32, (.bool false)), (8, (ptr u1 0)), (7, (.bool true)), (3, (ptr b1 0)), (0, (.agg #[vn, (.int .i64 ino), (.int .i64 kind), (.int .i64 m), (.int .i64 u'), (.int .i64 gi'), vd, (.string target), vx, (.bool opq)])), (1, (.string s)), (2, (.int .i64 more))] ?_
                        refine C_drawT 6 [fun _ v => v = (.int .i64 1), fun _ v => v = (.bool true), fun _ v => v = (.bool true), fun _ v => v = (ptr u1 0), fun _ v => v = (.agg #[(.int .i64 1), (.int .i64 64)]), fun _ v => v = (.agg #[(.int .i64 1), (.int .i64 64)])] (by kernel_rfl) (by kernel_rfl) (by kernel_rfl) (by kernel_rfl) ⟨stab_exact _, stab_exact _, stab_exact _, stab_exact _, stab_exact _, stab_exact _, trivial⟩ ⟨?_, ?_, ?_, ?_, ?_, ?_, trivial⟩ ?_
                        · intro aq wd ld hfd hdd
                          have hfd := Fr.cast (s' := [(13, (.int .i64 1)), (204, (.bool (decide (lk3 > 0)))), (23, (.int .i64 j)), (21, (.int .i64 lk3)), (198, (.bool false)), (163, (.bool false)), (22, (.int .i64 k2)), (20, (.slice (some ⟨b4, 0, none⟩) 5 5)), (149, (.bool (!((2 == 2) && (((128 + (data.length : Int) + (target.size : Int) + sumX xs + (s.size : Int)) == (64 + by_)) && true))))), (119, (.bool (decide (ix < (xs.length : Int))))), (19, (.int .i64 ix)), (18, (.int .i64 by_)), (109, (.bool false)), (17, (.int .i64 ((data.length : Int) + (target.size : Int)))), (16, (.bool (sameX xs xs))), (15, (.int .i64 0)), (14, v1), (12, (ptr b3 0)), (61, (.bool (decide ((data.length : Int) > 4096)))), (43, (.bool false)), (11, (.int .i64 0)), (10, (.int .i64 2)), (9, (ptr b2 0)), (32, (.bool false)), (8, (ptr u1 0)), (7, (.bool true)), (3, (ptr b1 0)), (0, (.agg #[vn, (.int .i64 ino), (.int .i64 kind), (.int .i64 m), (.int .i64 u'), (.int .i64 gi'), vd, (.string target), vx, (.bool opq)])), (1, (.string s)), (2, (.int .i64 more))]) hfd (by kernel_rfl)
                          exact G_val (v := (.int .i64 1)) (w' := wd) hfd rfl (by kernel_rfl) (by kernel_rfl) (Le.refl _) rfl
                        · intro aq wd ld hfd hdd
                          have hfd := Fr.cast (s' := [(13, (.int .i64 1)), (204, (.bool (decide (lk3 > 0)))), (23, (.int .i64 j)), (21, (.int .i64 lk3)), (198, (.bool false)), (163, (.bool false)), (22, (.int .i64 k2)), (20, (.slice (some ⟨b4, 0, none⟩) 5 5)), (149, (.bool (!((2 == 2) && (((128 + (data.length : Int) + (target.size : Int) + sumX xs + (s.size : Int)) == (64 + by_)) && true))))), (119, (.bool (decide (ix < (xs.length : Int))))), (19, (.int .i64 ix)), (18, (.int .i64 by_)), (109, (.bool false)), (17, (.int .i64 ((data.length : Int) + (target.size : Int)))), (16, (.bool (sameX xs xs))), (15, (.int .i64 0)), (14, v1), (12, (ptr b3 0)), (61, (.bool (decide ((data.length : Int) > 4096)))), (43, (.bool false)), (11, (.int .i64 0)), (10, (.int .i64 2)), (9, (ptr b2 0)), (32, (.bool false)), (8, (ptr u1 0)), (7, (.bool true)), (3, (ptr b1 0)), (0, (.agg #[vn, (.int .i64 ino), (.int .i64 kind), (.int .i64 m), (.int .i64 u'), (.int .i64 gi'), vd, (.string target), vx, (.bool opq)])), (1, (.string s)), (2, (.int .i64 more))]) hfd (by kernel_rfl)
                          obtain ⟨e0, _⟩ := hdd
                          have hfd := Fr.add (t := 230) (v := (.int .i64 1)) hfd e0
                          exact G_val (v := (.bool true)) (w' := wd) hfd rfl (by kernel_rfl) (by kernel_rfl) (Le.refl _) rfl
                        · intro aq wd ld hfd hdd
                          have hfd := Fr.cast (s' := [(13, (.int .i64 1)), (204, (.bool (decide (lk3 > 0)))), (23, (.int .i64 j)), (21, (.int .i64 lk3)), (198, (.bool false)), (163, (.bool false)), (22, (.int .i64 k2)), (20, (.slice (some ⟨b4, 0, none⟩) 5 5)), (149, (.bool (!((2 == 2) && (((128 + (data.length : Int) + (target.size : Int) + sumX xs + (s.size : Int)) == (64 + by_)) && true))))), (119, (.bool (decide (ix < (xs.length : Int))))), (19, (.int .i64 ix)), (18, (.int .i64 by_)), (109, (.bool false)), (17, (.int .i64 ((data.length : Int) + (target.size : Int)))), (16, (.bool (sameX xs xs))), (15, (.int .i64 0)), (14, v1), (12, (ptr b3 0)), (61, (.bool (decide ((data.length : Int) > 4096)))), (43, (.bool false)), (11, (.int .i64 0)), (10, (.int .i64 2)), (9, (ptr b2 0)), (32, (.bool false)), (8, (ptr u1 0)), (7, (.bool true)), (3, (ptr b1 0)), (0, (.agg #[vn, (.int .i64 ino), (.int .i64 kind), (.int .i64 m), (.int .i64 u'), (.int .i64 gi'), vd, (.string target), vx, (.bool opq)])), (1, (.string s)), (2, (.int .i64 more))]) hfd (by kernel_rfl)
                          obtain ⟨e1, _⟩ := hdd
                          have hfd := Fr.add (t := 231) (v := (.bool true)) hfd e1
                          exact G_val (v := (.bool true)) (w' := wd) hfd rfl (by kernel_rfl) (by kernel_rfl) (Le.refl _) rfl
                        · intro aq wd ld hfd hdd
                          have hfd := Fr.cast (s' := [(13, (.int .i64 1)), (204, (.bool (decide (lk3 > 0)))), (23, (.int .i64 j)), (21, (.int .i64 lk3)), (198, (.bool false)), (163, (.bool false)), (22, (.int .i64 k2)), (20, (.slice (some ⟨b4, 0, none⟩) 5 5)), (149, (.bool (!((2 == 2) && (((128 + (data.length : Int) + (target.size : Int) + sumX xs + (s.size : Int)) == (64 + by_)) && true))))), (119, (.bool (decide (ix < (xs.length : Int))))), (19, (.int .i64 ix)), (18, (.int .i64 by_)), (109, (.bool false)), (17, (.int .i64 ((data.length : Int) + (target.size : Int)))), (16, (.bool (sameX xs xs))), (15, (.int .i64 0)), (14, v1), (12, (ptr b3 0)), (61, (.bool (decide ((data.length : Int) > 4096)))), (43, (.bool false)), (11, (.int .i64 0)), (10, (.int .i64 2)), (9, (ptr b2 0)), (32, (.bool false)), (8, (ptr u1 0)), (7, (.bool true)), (3, (ptr b1 0)), (0, (.agg #[vn, (.int .i64 ino), (.int .i64 kind), (.int .i64 m), (.int .i64 u'), (.int .i64 gi'), vd, (.string target), vx, (.bool opq)])), (1, (.string s)), (2, (.int .i64 more))]) hfd (by kernel_rfl)
                          obtain ⟨e2, _⟩ := hdd
                          have hfd := Fr.add (t := 232) (v := (.bool true)) hfd e2
                          exact G_val (v := (ptr u1 0)) (w' := wd) hfd rfl (by kernel_rfl) (by kernel_rfl) (Le.refl _) rfl
                        · intro aq wd ld hfd hdd
                          have hfd := Fr.cast (s' := [(13, (.int .i64 1)), (204, (.bool (decide (lk3 > 0)))), (23, (.int .i64 j)), (21, (.int .i64 lk3)), (198, (.bool false)), (163, (.bool false)), (22, (.int .i64 k2)), (20, (.slice (some ⟨b4, 0, none⟩) 5 5)), (149, (.bool (!((2 == 2) && (((128 + (data.length : Int) + (target.size : Int) + sumX xs + (s.size : Int)) == (64 + by_)) && true))))), (119, (.bool (decide (ix < (xs.length : Int))))), (19, (.int .i64 ix)), (18, (.int .i64 by_)), (109, (.bool false)), (17, (.int .i64 ((data.length : Int) + (target.size : Int)))), (16, (.bool (sameX xs xs))), (15, (.int .i64 0)), (14, v1), (12, (ptr b3 0)), (61, (.bool (decide ((data.length : Int) > 4096)))), (43, (.bool false)), (11, (.int .i64 0)), (10, (.int .i64 2)), (9, (ptr b2 0)), (32, (.bool false)), (8, (ptr u1 0)), (7, (.bool true)), (3, (ptr b1 0)), (0, (.agg #[vn, (.int .i64 ino), (.int .i64 kind), (.int .i64 m), (.int .i64 u'), (.int .i64 gi'), vd, (.string target), vx, (.bool opq)])), (1, (.string s)), (2, (.int .i64 more))]) hfd (by kernel_rfl)
                          obtain ⟨e3, e2, _, _⟩ := hdd
                          have hfd := Fr.add (t := 233) (v := (ptr u1 0)) hfd e3
                          have hfd := Fr.add (t := 232) (v := (.bool true)) hfd e2
                          exact G_call (args := #[(ptr u1 0)]) (w := wd) hfd rfl (by kernel_rfl) (by kernel_rfl) (used_S u1 100 100000 3 ([(1, rootU [])]) _ _ _ _ (H.le ld) 1 64 rfl rfl (by decide)) fun v w' ⟨he, hl⟩ => ⟨hl, he⟩
                        · intro aq wd ld hfd hdd
                          have hfd := Fr.cast (s' := [(13, (.int .i64 1)), (204, (.bool (decide (lk3 > 0)))), (23, (.int .i64 j)), (21, (.int .i64 lk3)), (198, (.bool false)), (163, (.bool false)), (22, (.int .i64 k2)), (20, (.slice (some ⟨b4, 0, none⟩) 5 5)), (149, (.bool (!((2 == 2) && (((128 + (data.length : Int) + (target.size : Int) + sumX xs + (s.size : Int)) == (64 + by_)) && true))))), (119, (.bool (decide (ix < (xs.length : Int))))), (19, (.int .i64 ix)), (18, (.int .i64 by_)), (109, (.bool false)), (17, (.int .i64 ((data.length : Int) + (target.size : Int)))), (16, (.bool (sameX xs xs))), (15, (.int .i64 0)), (14, v1), (12, (ptr b3 0)), (61, (.bool (decide ((data.length : Int) > 4096)))), (43, (.bool false)), (11, (.int .i64 0)), (10, (.int .i64 2)), (9, (ptr b2 0)), (32, (.bool false)), (8, (ptr u1 0)), (7, (.bool true)), (3, (ptr b1 0)), (0, (.agg #[vn, (.int .i64 ino), (.int .i64 kind), (.int .i64 m), (.int .i64 u'), (.int .i64 gi'), vd, (.string target), vx, (.bool opq)])), (1, (.string s)), (2, (.int .i64 more))]) hfd (by kernel_rfl)
                          obtain ⟨e2, _⟩ := hdd
                          have hfd := Fr.add (t := 232) (v := (.bool true)) hfd e2
                          exact G_val hfd rfl (by kernel_rfl) (load_ev (run_load_row ((H.le ld).blk 2) Try.underlying33 rfl (vs := [(.int .i64 1), (.int .i64 64)]) (by kernel_rfl) rfl) rfl rfl) (Le.refl _) rfl
                        intro aq19 w48 l22 hf7 fa7
                        obtain ⟨_, _, qv17, _, qv18, qv19, _⟩ := fa7
                        have hf7 := Fr.cast (s' := [(13, (.int .i64 1)), (204, (.bool (decide (lk3 > 0)))), (23, (.int .i64 j)), (21, (.int .i64 lk3)), (198, (.bool false)), (163, (.bool false)), (22, (.int .i64 k2)), (20, (.slice (some ⟨b4, 0, none⟩) 5 5)), (149, (.bool (!((2 == 2) && (((128 + (data.length : Int) + (target.size : Int) + sumX xs + (s.size : Int)) == (64 + by_)) && true))))), (119, (.bool (decide (ix < (xs.length : Int))))), (19, (.int .i64 ix)), (18, (.int .i64 by_)), (109, (.bool false)), (17, (.int .i64 ((data.length : Int) + (target.size : Int)))), (16, (.bool (sameX xs xs))), (15, (.int .i64 0)), (14, v1), (12, (ptr b3 0)), (61, (.bool (decide ((data.length : Int) > 4096)))), (43, (.bool false)), (11, (.int .i64 0)), (10, (.int .i64 2)), (9, (ptr b2 0)), (32, (.bool false)), (8, (ptr u1 0)), (7, (.bool true)), (3, (ptr b1 0)), (0, (.agg #[vn, (.int .i64 ino), (.int .i64 kind), (.int .i64 m), (.int .i64 u'), (.int .i64 gi'), vd, (.string target), vx, (.bool opq)])), (1, (.string s)), (2, (.int .i64 more))]) hf7 (by kernel_rfl)
                        have hf7 := Fr.add (t := 232) (v := (.bool true)) hf7 qv17
                        have hf7 := Fr.add (t := 234) (v := (.agg #[(.int .i64 1), (.int .i64 64)])) hf7 qv18
                        have hf7 := Fr.add (t := 235) (v := (.agg #[(.int .i64 1), (.int .i64 64)])) hf7 qv19
                        replace H := H.le l22
                        refine (?_ : wpR _ _ _ _ [(235, (.agg #[(.int .i64 1), (.int .i64 64)])), (234, (.agg #[(.int .i64 1), (.int .i64 64)])), (232, (.bool true)), (13, (.int .i64 1)), (204, (.bool (decide (lk3 > 0)))), (23, (.int .i64 j)), (21, (.int .i64 lk3)), (198, (.bool false)), (163, (.bool false)), (22, (.int .i64 k2)), (20, (.slice (some ⟨b4, 0, none⟩) 5 5)), (149, (.bool (!((2 == 2) && (((128 + (data.length : Int) + (target.size : Int) + sumX xs + (s.size : Int)) == (64 + by_)) && true))))), (119, (.bool (decide (ix < (xs.length : Int))))), (19, (.int .i64 ix)), (18, (.int .i64 by_)), (109, (.bool false)), (17, (.int .i64 ((data.length : Int) + (target.size : Int)))), (16, (.bool (sameX xs xs))), (15, (.int .i64 0)), (14, v1), (12, (ptr b3 0)), (61, (.bool (decide ((data.length : Int) > 4096)))), (43, (.bool false)), (11, (.int .i64 0)), (10, (.int .i64 2)), (9, (ptr b2 0)), (32, (.bool false)), (8, (ptr u1 0)), (7, (.bool true)), (3, (ptr b1 0)), (0, (.agg #[vn, (.int .i64 ino), (.int .i64 kind), (.int .i64 m), (.int .i64 u'), (.int .i64 gi'), vd, (.string target), vx, (.bool opq)])), (1, (.string s)), (2, (.int .i64 more))] _ _) aq19 (hf7.sub ⟨rfl, rfl, rfl, rfl, rfl, rfl, rfl, rfl, rfl, rfl, rfl, rfl, rfl, rfl, rfl, rfl, rfl, rfl, rfl, rfl, rfl, rfl, rfl, rfl, rfl, rfl, rfl, rfl, rfl, rfl, rfl, rfl, rfl, trivial⟩)
                        refine Rw (.bool ((1 == 1) && ((64 == 64) && true))) w48 (X_eql_struct rfl rfl rfl Try.underlying33 (by kernel_rfl) (by kernel_rfl) (eqF_int rfl Try.underlying3 (by kernel_rfl) rfl rfl (eqF_int rfl Try.underlying3 (by kernel_rfl) rfl rfl (eqF_nil)))) ?_
                        refine Rv (.bool ((1 == 1) && ((64 == 64) && true))) w48 ?_
                        refine Rv (.bool ((1 == 1) && ((64 == 64) && true))) w48 ?_
                        refine wpR_nil ?_
                        refine E_then_normal ?_
                        refine C_ret ?_
                        refine E_ret (res_one rfl rfl) ⟨_, rfl, ?_⟩
                        exact ⟨congrArg Value.bool (by first | (simp; done) | (simp; omega) | (simp_all; done) | (simp_all; omega)), H.toLe⟩
                    · have d20 : ¬ j < 5 := of_decide_eq_false c20
                      refine Rw (.bool false) w44 (eq_bool (by kernel_rfl) c20) ?_
                      iterate 2 refine Rs ?_
                      refine Rv (.bool false) w44 ?_
                      refine wpR_nil ?_
                      refine E_then_normal ?_
                      refine C_false rfl ?_
                      refine C_exit ?_
                      refine E_then_exit ?_
                      refine E_then_exit ?_
                      refine E_block_here ?_
                      refine E_then_normal ?_
                      refine C_seq ?_
                      refine Cs [(204, (.bool false)), (23, (.int .i64 j)), (21, (.int .i64 lk3)), (198, (.bool false)), (163, (.bool false)), (22, (.int .i64 k2)), (20, (.slice (some ⟨b4, 0, none⟩) 5 5)), (149, (.bool (!((2 == 2) && (((128 + (data.length : Int) + (target.size : Int) + sumX xs + (s.size : Int)) == (64 + by_)) && true))))), (119, (.bool (decide (ix < (xs.length : Int))))), (19, (.int .i64 ix)), (18, (.int .i64 by_)), (109, (.bool false)), (17, (.int .i64 ((data.length : Int) + (target.size : Int)))), (16, (.bool (sameX xs xs))), (15, (.int .i64 0)), (14, v1), (13, (.int .i64 0)), (12, (ptr b3 0)), (61, (.bool (decide ((data.length : Int) > 4096)))), (43, (.bool false)), (11, (.int .i64 0)), (10, (.int .i64 2)), (9, (ptr b2 0)), (32, (.bool false)), (8, (ptr u1 0)), (7, (.bool true)), (3, (ptr b1 0)), (0, (.agg #[vn, (.int .i64 ino), (.int .i64 kind), (.int .i64 m), (.int .i64 u'), (.int .i64 gi'), vd, (.string target), vx, (.bool opq)])), (1, (.string s)), (2, (.int .i64 more))] ?_
                      have hR0 : R = [] := hR.fin (by omega)
                      subst hR0
                      refine C_region ?_
                      refine Rv (ptr u1 0) w44 ?_
                      refine Rv (.int .i64 2) w44 ?_
                      refine Rc #[(ptr u1 0), (.int .i64 2)] w44 (statno_S u1 100 100000 3 ([(1, rootU [])]) 2 _ _ _ _ H rfl (by decide)) ?_
                      rintro _ w49 ⟨rfl, l23⟩
                      replace H := H.le l23
                      refine Rv (.tuple #[(.agg #[(.int .i64 0), (.int .i64 0), (.int .i64 0), (.int .i64 0), (.int .i64 0), (.int .i64 0)]), (.int .i64 1)]) w49 ?_
                      refine Rv (.agg #[(.int .i64 0), (.int .i64 0), (.int .i64 0), (.int .i64 0), (.int .i64 0), (.int .i64 0)]) w49 ?_
                      refine Rv (.int .i64 1) w49 ?_
                      refine Rv (.int .i64 1) w49 ?_
                      refine wpR_nil ?_
                      refine E_then_normal ?_
                      refine C_seq ?_
                      refine Cs [(13, (.int .i64 1)), (204, (.bool false)), (23, (.int .i64 j)), (21, (.int .i64 lk3)), (198, (.bool false)), (163, (.bool false)), (22, (.int .i64 k2)), (20, (.slice (some ⟨b4, 0, none⟩) 5 5)), (149, (.bool (!((2 == 2) && (((128 + (data.length : Int) + (target.size : Int) + sumX xs + (s.size : Int)) == (64 + by_)) && true))))), (119, (.bool (decide (ix < (xs.length : Int))))), (19, (.int .i64 ix)), (18, (.int .i64 by_)), (109, (.bool false)), (17, (.int .i64 ((data.length : Int) + (target.size : Int)))), (16, (.bool (sameX xs xs))), (15, (.int .i64 0)), (14, v1), (12, (ptr b3 0)), (61, (.bool (decide ((data.length : Int) > 4096)))), (43, (.bool false)), (11, (.int .i64 0)), (10, (.int .i64 2)), (9, (ptr b2 0)), (32, (.bool false)), (8, (ptr u1 0)), (7, (.bool true)), (3, (ptr b1 0)), (0, (.agg #[vn, (.int .i64 ino), (.int .i64 kind), (.int .i64 m), (.int .i64 u'), (.int .i64 gi'), vd, (.string target), vx, (.bool opq)])), (1, (.string s)), (2, (.int .i64 more))] ?_
                      refine C_drawT 6 [fun _ v => v = (.int .i64 1), fun _ v => v = (.bool true), fun _ v => v = (.bool true), fun _ v => v = (ptr u1 0), fun _ v => v = (.agg #[(.int .i64 1), (.int .i64 64)]), fun _ v => v = (.agg #[(.int .i64 1), (.int .i64 64)])] (by kernel_rfl) (by kernel_rfl) (by kernel_rfl) (by kernel_rfl) ⟨stab_exact _, stab_exact _, stab_exact _, stab_exact _, stab_exact _, stab_exact _, trivial⟩ ⟨?_, ?_, ?_, ?_, ?_, ?_, trivial⟩ ?_
                      · intro aq wd ld hfd hdd
                        have hfd := Fr.cast (s' := [(13, (.int .i64 1)), (204, (.bool false)), (23, (.int .i64 j)), (21, (.int .i64 lk3)), (198, (.bool false)), (163, (.bool false)), (22, (.int .i64 k2)), (20, (.slice (some ⟨b4, 0, none⟩) 5 5)), (149, (.bool (!((2 == 2) && (((128 + (data.length : Int) + (target.size : Int) + sumX xs + (s.size : Int)) == (64 + by_)) && true))))), (119, (.bool (decide (ix < (xs.length : Int))))), (19, (.int .i64 ix)), (18, (.int .i64 by_)), (109, (.bool false)), (17, (.int .i64 ((data.length : Int) + (target.size : Int)))), (16, (.bool (sameX xs xs))), (15, (.int .i64 0)), (14, v1), (12, (ptr b3 0)), (61, (.bool (decide ((data.length : Int) > 4096)))), (43, (.bool false)), (11, (.int .i64 0)), (10, (.int .i64 2)), (9, (ptr b2 0)), (32, (.bool false)), (8, (ptr u1 0)), (7, (.bool true)), (3, (ptr b1 0)), (0, (.agg #[vn, (.int .i64 ino), (.int .i64 kind), (.int .i64 m), (.int .i64 u'), (.int .i64 gi'), vd, (.string target), vx, (.bool opq)])), (1, (.string s)), (2, (.int .i64 more))]) hfd (by kernel_rfl)
                        exact G_val (v := (.int .i64 1)) (w' := wd) hfd rfl (by kernel_rfl) (by kernel_rfl) (Le.refl _) rfl
                      · intro aq wd ld hfd hdd
                        have hfd := Fr.cast (s' := [(13, (.int .i64 1)), (204, (.bool false)), (23, (.int .i64 j)), (21, (.int .i64 lk3)), (198, (.bool false)), (163, (.bool false)), (22, (.int .i64 k2)), (20, (.slice (some ⟨b4, 0, none⟩) 5 5)), (149, (.bool (!((2 == 2) && (((128 + (data.length : Int) + (target.size : Int) + sumX xs + (s.size : Int)) == (64 + by_)) && true))))), (119, (.bool (decide (ix < (xs.length : Int))))), (19, (.int .i64 ix)), (18, (.int .i64 by_)), (109, (.bool false)), (17, (.int .i64 ((data.length : Int) + (target.size : Int)))), (16, (.bool (sameX xs xs))), (15, (.int .i64 0)), (14, v1), (12, (ptr b3 0)), (61, (.bool (decide ((data.length : Int) > 4096)))), (43, (.bool false)), (11, (.int .i64 0)), (10, (.int .i64 2)), (9, (ptr b2 0)), (32, (.bool false)), (8, (ptr u1 0)), (7, (.bool true)), (3, (ptr b1 0)), (0, (.agg #[vn, (.int .i64 ino), (.int .i64 kind), (.int .i64 m), (.int .i64 u'), (.int .i64 gi'), vd, (.string target), vx, (.bool opq)])), (1, (.string s)), (2, (.int .i64 more))]) hfd (by kernel_rfl)
                        obtain ⟨e0, _⟩ := hdd
                        have hfd := Fr.add (t := 230) (v := (.int .i64 1)) hfd e0
                        exact G_val (v := (.bool true)) (w' := wd) hfd rfl (by kernel_rfl) (by kernel_rfl) (Le.refl _) rfl
                      · intro aq wd ld hfd hdd
                        have hfd := Fr.cast (s' := [(13, (.int .i64 1)), (204, (.bool false)), (23, (.int .i64 j)), (21, (.int .i64 lk3)), (198, (.bool false)), (163, (.bool false)), (22, (.int .i64 k2)), (20, (.slice (some ⟨b4, 0, none⟩) 5 5)), (149, (.bool (!((2 == 2) && (((128 + (data.length : Int) + (target.size : Int) + sumX xs + (s.size : Int)) == (64 + by_)) && true))))), (119, (.bool (decide (ix < (xs.length : Int))))), (19, (.int .i64 ix)), (18, (.int .i64 by_)), (109, (.bool false)), (17, (.int .i64 ((data.length : Int) + (target.size : Int)))), (16, (.bool (sameX xs xs))), (15, (.int .i64 0)), (14, v1), (12, (ptr b3 0)), (61, (.bool (decide ((data.length : Int) > 4096)))), (43, (.bool false)), (11, (.int .i64 0)), (10, (.int .i64 2)), (9, (ptr b2 0)), (32, (.bool false)), (8, (ptr u1 0)), (7, (.bool true)), (3, (ptr b1 0)), (0, (.agg #[vn, (.int .i64 ino), (.int .i64 kind), (.int .i64 m), (.int .i64 u'), (.int .i64 gi'), vd, (.string target), vx, (.bool opq)])), (1, (.string s)), (2, (.int .i64 more))]) hfd (by kernel_rfl)
                        obtain ⟨e1, _⟩ := hdd
                        have hfd := Fr.add (t := 231) (v := (.bool true)) hfd e1
                        exact G_val (v := (.bool true)) (w' := wd) hfd rfl (by kernel_rfl) (by kernel_rfl) (Le.refl _) rfl
                      · intro aq wd ld hfd hdd
                        have hfd := Fr.cast (s' := [(13, (.int .i64 1)), (204, (.bool false)), (23, (.int .i64 j)), (21, (.int .i64 lk3)), (198, (.bool false)), (163, (.bool false)), (22, (.int .i64 k2)), (20, (.slice (some ⟨b4, 0, none⟩) 5 5)), (149, (.bool (!((2 == 2) && (((128 + (data.length : Int) + (target.size : Int) + sumX xs + (s.size : Int)) == (64 + by_)) && true))))), (119, (.bool (decide (ix < (xs.length : Int))))), (19, (.int .i64 ix)), (18, (.int .i64 by_)), (109, (.bool false)), (17, (.int .i64 ((data.length : Int) + (target.size : Int)))), (16, (.bool (sameX xs xs))), (15, (.int .i64 0)), (14, v1), (12, (ptr b3 0)), (61, (.bool (decide ((data.length : Int) > 4096)))), (43, (.bool false)), (11, (.int .i64 0)), (10, (.int .i64 2)), (9, (ptr b2 0)), (32, (.bool false)), (8, (ptr u1 0)), (7, (.bool true)), (3, (ptr b1 0)), (0, (.agg #[vn, (.int .i64 ino), (.int .i64 kind), (.int .i64 m), (.int .i64 u'), (.int .i64 gi'), vd, (.string target), vx, (.bool opq)])), (1, (.string s)), (2, (.int .i64 more))]) hfd (by kernel_rfl)
                        obtain ⟨e2, _⟩ := hdd
                        have hfd := Fr.add (t := 232) (v := (.bool true)) hfd e2
                        exact G_val (v := (ptr u1 0)) (w' := wd) hfd rfl (by kernel_rfl) (by kernel_rfl) (Le.refl _) rfl
                      · intro aq wd ld hfd hdd
                        have hfd := Fr.cast (s' := [(13, (.int .i64 1)), (204, (.bool false)), (23, (.int .i64 j)), (21, (.int .i64 lk3)), (198, (.bool false)), (163, (.bool false)), (22, (.int .i64 k2)), (20, (.slice (some ⟨b4, 0, none⟩) 5 5)), (149, (.bool (!((2 == 2) && (((128 + (data.length : Int) + (target.size : Int) + sumX xs + (s.size : Int)) == (64 + by_)) && true))))), (119, (.bool (decide (ix < (xs.length : Int))))), (19, (.int .i64 ix)), (18, (.int .i64 by_)), (109, (.bool false)), (17, (.int .i64 ((data.length : Int) + (target.size : Int)))), (16, (.bool (sameX xs xs))), (15, (.int .i64 0)), (14, v1), (12, (ptr b3 0)), (61, (.bool (decide ((data.length : Int) > 4096)))), (43, (.bool false)), (11, (.int .i64 0)), (10, (.int .i64 2)), (9, (ptr b2 0)), (32, (.bool false)), (8, (ptr u1 0)), (7, (.bool true)), (3, (ptr b1 0)), (0, (.agg #[vn, (.int .i64 ino), (.int .i64 kind), (.int .i64 m), (.int .i64 u'), (.int .i64 gi'), vd, (.string target), vx, (.bool opq)])), (1, (.string s)), (2, (.int .i64 more))]) hfd (by kernel_rfl)
                        obtain ⟨e3, e2, _, _⟩ := hdd
                        have hfd := Fr.add (t := 233) (v := (ptr u1 0)) hfd e3
                        have hfd := Fr.add (t := 232) (v := (.bool true)) hfd e2
                        exact G_call (args := #[(ptr u1 0)]) (w := wd) hfd rfl (by kernel_rfl) (by kernel_rfl) (used_S u1 100 100000 3 ([(1, rootU [])]) _ _ _ _ (H.le ld) 1 64 rfl rfl (by decide)) fun v w' ⟨he, hl⟩ => ⟨hl, he⟩
                      · intro aq wd ld hfd hdd
                        have hfd := Fr.cast (s' := [(13, (.int .i64 1)), (204, (.bool false)), (23, (.int .i64 j)), (21, (.int .i64 lk3)), (198, (.bool false)), (163, (.bool false)), (22, (.int .i64 k2)), (20, (.slice (some ⟨b4, 0, none⟩) 5 5)), (149, (.bool (!((2 == 2) && (((128 + (data.length : Int) + (target.size : Int) + sumX xs + (s.size : Int)) == (64 + by_)) && true))))), (119, (.bool (decide (ix < (xs.length : Int))))), (19, (.int .i64 ix)), (18, (.int .i64 by_)), (109, (.bool false)), (17, (.int .i64 ((data.length : Int) + (target.size : Int)))), (16, (.bool (sameX xs xs))), (15, (.int .i64 0)), (14, v1), (12, (ptr b3 0)), (61, (.bool (decide ((data.length : Int) > 4096)))), (43, (.bool false)), (11, (.int .i64 0)), (10, (.int .i64 2)), (9, (ptr b2 0)), (32, (.bool false)), (8, (ptr u1 0)), (7, (.bool true)), (3, (ptr b1 0)), (0, (.agg #[vn, (.int .i64 ino), (.int .i64 kind), (.int .i64 m), (.int .i64 u'), (.int .i64 gi'), vd, (.string target), vx, (.bool opq)])), (1, (.string s)), (2, (.int .i64 more))]) hfd (by kernel_rfl)
                        obtain ⟨e2, _⟩ := hdd
                        have hfd := Fr.add (t := 232) (v := (.bool true)) hfd e2
                        exact G_val hfd rfl (by kernel_rfl) (load_ev (run_load_row ((H.le ld).blk 2) Try.underlying33 rfl (vs := [(.int .i64 1), (.int .i64 64)]) (by kernel_rfl) rfl) rfl rfl) (Le.refl _) rfl
                      intro aq20 w50 l24 hf8 fa8
                      obtain ⟨_, _, qv20, _, qv21, qv22, _⟩ := fa8
                      have hf8 := Fr.cast (s' := [(13, (.int .i64 1)), (204, (.bool false)), (23, (.int .i64 j)), (21, (.int .i64 lk3)), (198, (.bool false)), (163, (.bool false)), (22, (.int .i64 k2)), (20, (.slice (some ⟨b4, 0, none⟩) 5 5)), (149, (.bool (!((2 == 2) && (((128 + (data.length : Int) + (target.size : Int) + sumX xs + (s.size : Int)) == (64 + by_)) && true))))), (119, (.bool (decide (ix < (xs.length : Int))))), (19, (.int .i64 ix)), (18, (.int .i64 by_)), (109, (.bool false)), (17, (.int .i64 ((data.length : Int) + (target.size : Int)))), (16, (.bool (sameX xs xs))), (15, (.int .i64 0)), (14, v1), (12, (ptr b3 0)), (61, (.bool (decide ((data.length : Int) > 4096)))), (43, (.bool false)), (11, (.int .i64 0)), (10, (.int .i64 2)), (9, (ptr b2 0)), (32, (.bool false)), (8, (ptr u1 0)), (7, (.bool true)), (3, (ptr b1 0)), (0, (.agg #[vn, (.int .i64 ino), (.int .i64 kind), (.int .i64 m), (.int .i64 u'), (.int .i64 gi'), vd, (.string target), vx, (.bool opq)])), (1, (.string s)), (2, (.int .i64 more))]) hf8 (by kernel_rfl)
                      have hf8 := Fr.add (t := 232) (v := (.bool true)) hf8 qv20
                      have hf8 := Fr.add (t := 234) (v := (.agg #[(.int .i64 1), (.int .i64 64)])) hf8 qv21
                      have hf8 := Fr.add (t := 235) (v := (.agg #[(.int .i64 1), (.int .i64 64)])) hf8 qv22
                      replace H := H.le l24
                      refine (?_ : wpR _ _ _ _ [(235, (.agg #[(.int .i64 1), (.int .i64 64)])), (234, (.agg #[(.int .i64 1), (.int .i64 64)])), (232, (.bool true)), (13, (.int .i64 1)), (204, (.bool false)), (23, (.int .i64 j)), (21, (.int .i64 lk3)), (198, (.bool false)), (163, (.bool false)), (22, (.int .i64 k2)), (20, (.slice (some ⟨b4, 0, none⟩) 5 5)), (149, (.bool (!((2 == 2) && (((128 + (data.length : Int) + (target.size : Int) + sumX xs + (s.size : Int)) == (64 + by_)) && true))))), (119, (.bool (decide (ix < (xs.length : Int))))), (19, (.int .i64 ix)), (18, (.int .i64 by_)), (109, (.bool false)), (17, (.int .i64 ((data.length : Int) + (target.size : Int)))), (16, (.bool (sameX xs xs))), (15, (.int .i64 0)), (14, v1), (12, (ptr b3 0)), (61, (.bool (decide ((data.length : Int) > 4096)))), (43, (.bool false)), (11, (.int .i64 0)), (10, (.int .i64 2)), (9, (ptr b2 0)), (32, (.bool false)), (8, (ptr u1 0)), (7, (.bool true)), (3, (ptr b1 0)), (0, (.agg #[vn, (.int .i64 ino), (.int .i64 kind), (.int .i64 m), (.int .i64 u'), (.int .i64 gi'), vd, (.string target), vx, (.bool opq)])), (1, (.string s)), (2, (.int .i64 more))] _ _) aq20 (hf8.sub ⟨rfl, rfl, rfl, rfl, rfl, rfl, rfl, rfl, rfl, rfl, rfl, rfl, rfl, rfl, rfl, rfl, rfl, rfl, rfl, rfl, rfl, rfl, rfl, rfl, rfl, rfl, rfl, rfl, rfl, rfl, rfl, rfl, rfl, trivial⟩)
                      refine Rw (.bool ((1 == 1) && ((64 == 64) && true))) w50 (X_eql_struct rfl rfl rfl Try.underlying33 (by kernel_rfl) (by kernel_rfl) (eqF_int rfl Try.underlying3 (by kernel_rfl) rfl rfl (eqF_int rfl Try.underlying3 (by kernel_rfl) rfl rfl (eqF_nil)))) ?_
                      refine Rv (.bool ((1 == 1) && ((64 == 64) && true))) w50 ?_
                      refine Rv (.bool ((1 == 1) && ((64 == 64) && true))) w50 ?_
                      refine wpR_nil ?_
                      refine E_then_normal ?_
                      refine C_ret ?_
                      refine E_ret (res_one rfl rfl) ⟨_, rfl, ?_⟩
                      exact ⟨congrArg Value.bool (by first | (simp; done) | (simp; omega) | (simp_all; done) | (simp_all; omega)), H.toLe⟩
  · replace H := H.pick 1
    refine Rc #[(ptr u1 0), (.int .i64 1), (.string s), (.agg #[vn, (.int .i64 ino), (.int .i64 kind), (.int .i64 m), (.int .i64 u'), (.int .i64 gi'), vd, (.string target), vx, (.bool opq)])] w6 (make_S u1 100 100000 2 ([(1, rootU [])]) 1 s vn ino kind m u' gi' vd data target vx xs opq _ _ _ _ H (makeE [(1, rootU [])] 1 s ⟨kind, m, u', gi', data, target, xs⟩) 0 2 ([(1, rootU [])]) rfl (mkNo hm1) (if_neg hm1) (if_neg hm1) (by decide) (by first | decide | omega | exact nm_size (by omega) (by omega) | (simp; omega)) hd hx (by first | decide | omega | exact nm_size (by omega) (by omega) | (simp; omega)) rfl (by decide) (by decide) (by decide) (ofGet rfl (by decide))) ?_
    rintro _ w51 ⟨g14, m18, Hn, rfl⟩
    replace H := Hn
    clear Hn
    refine Rv (.tuple #[(.int .i64 0), (.int .i64 (makeE [(1, rootU [])] 1 s ⟨kind, m, u', gi', data, target, xs⟩))]) w51 ?_
    refine Rv (.int .i64 0) w51 ?_
    refine Rv (.int .i64 (makeE [(1, rootU [])] 1 s ⟨kind, m, u', gi', data, target, xs⟩)) w51 ?_
    refine Rv (.int .i64 0) w51 ?_
    refine Rv (.int .i64 (makeE [(1, rootU [])] 1 s ⟨kind, m, u', gi', data, target, xs⟩)) w51 ?_
    refine wpR_nil ?_
    refine E_then_normal ?_
    refine C_seq ?_
    refine C_seq ?_
    refine Cs [(11, (.int .i64 (makeE [(1, rootU [])] 1 s ⟨kind, m, u', gi', data, target, xs⟩))), (10, (.int .i64 0)), (9, (ptr b2 0)), (32, (.bool false)), (8, (ptr u1 0)), (7, (.bool true)), (6, (.bool false)), (3, (ptr b1 0)), (0, (.agg #[vn, (.int .i64 ino), (.int .i64 kind), (.int .i64 m), (.int .i64 u'), (.int .i64 gi'), vd, (.string target), vx, (.bool opq)])), (1, (.string s)), (2, (.int .i64 more))] ?_
    refine C_region ?_
    refine Rv (.int .i64 (makeE [(1, rootU [])] 1 s ⟨kind, m, u', gi', data, target, xs⟩)) w51 ?_
    refine Rw (.bool true) w51 (eq_bool (by kernel_rfl) (bne_iff_ne.2 hm1)) ?_
    refine wpR_nil ?_
    refine E_then_normal ?_
    refine C_true rfl ?_
    refine C_seq ?_
    refine Cs [(43, (.bool true)), (11, (.int .i64 (makeE [(1, rootU [])] 1 s ⟨kind, m, u', gi', data, target, xs⟩))), (10, (.int .i64 0)), (9, (ptr b2 0)), (32, (.bool false)), (8, (ptr u1 0)), (7, (.bool true)), (6, (.bool false)), (3, (ptr b1 0)), (0, (.agg #[vn, (.int .i64 ino), (.int .i64 kind), (.int .i64 m), (.int .i64 u'), (.int .i64 gi'), vd, (.string target), vx, (.bool opq)])), (1, (.string s)), (2, (.int .i64 more))] ?_
    refine C_drawT 6 [fun _ v => v = (.int .i64 0), fun _ v => v = (.bool true), fun _ v => v = (.bool true), fun _ v => v = (ptr u1 0), fun _ v => v = (.agg #[(.int .i64 1), (.int .i64 64)]), fun _ v => v = (.agg #[(.int .i64 1), (.int .i64 64)])] (by kernel_rfl) (by kernel_rfl) (by kernel_rfl) (by kernel_rfl) ⟨stab_exact _, stab_exact _, stab_exact _, stab_exact _, stab_exact _, stab_exact _, trivial⟩ ⟨?_, ?_, ?_, ?_, ?_, ?_, trivial⟩ ?_
    · intro aq wd ld hfd hdd
      have hfd := Fr.cast (s' := [(43, (.bool true)), (11, (.int .i64 (makeE [(1, rootU [])] 1 s ⟨kind, m, u', gi', data, target, xs⟩))), (10, (.int .i64 0)), (9, (ptr b2 0)), (32, (.bool false)), (8, (ptr u1 0)), (7, (.bool true)), (6, (.bool false)), (3, (ptr b1 0)), (0, (.agg #[vn, (.int .i64 ino), (.int .i64 kind), (.int .i64 m), (.int .i64 u'), (.int .i64 gi'), vd, (.string target), vx, (.bool opq)])), (1, (.string s)), (2, (.int .i64 more))]) hfd (by kernel_rfl)
      exact G_val (v := (.int .i64 0)) (w' := wd) hfd rfl (by kernel_rfl) (by kernel_rfl) (Le.refl _) rfl
    · intro aq wd ld hfd hdd
      have hfd := Fr.cast (s' := [(43, (.bool true)), (11, (.int .i64 (makeE [(1, rootU [])] 1 s ⟨kind, m, u', gi', data, target, xs⟩))), (10, (.int .i64 0)), (9, (ptr b2 0)), (32, (.bool false)), (8, (ptr u1 0)), (7, (.bool true)), (6, (.bool false)), (3, (ptr b1 0)), (0, (.agg #[vn, (.int .i64 ino), (.int .i64 kind), (.int .i64 m), (.int .i64 u'), (.int .i64 gi'), vd, (.string target), vx, (.bool opq)])), (1, (.string s)), (2, (.int .i64 more))]) hfd (by kernel_rfl)
      obtain ⟨e0, _⟩ := hdd
      have hfd := Fr.add (t := 44) (v := (.int .i64 0)) hfd e0
      exact G_val (v := (.bool true)) (w' := wd) hfd rfl (by kernel_rfl) (by kernel_rfl) (Le.refl _) rfl
    · intro aq wd ld hfd hdd
      have hfd := Fr.cast (s' := [(43, (.bool true)), (11, (.int .i64 (makeE [(1, rootU [])] 1 s ⟨kind, m, u', gi', data, target, xs⟩))), (10, (.int .i64 0)), (9, (ptr b2 0)), (32, (.bool false)), (8, (ptr u1 0)), (7, (.bool true)), (6, (.bool false)), (3, (ptr b1 0)), (0, (.agg #[vn, (.int .i64 ino), (.int .i64 kind), (.int .i64 m), (.int .i64 u'), (.int .i64 gi'), vd, (.string target), vx, (.bool opq)])), (1, (.string s)), (2, (.int .i64 more))]) hfd (by kernel_rfl)
      obtain ⟨e1, _⟩ := hdd
      have hfd := Fr.add (t := 45) (v := (.bool true)) hfd e1
      exact G_val (v := (.bool true)) (w' := wd) hfd rfl (by kernel_rfl) (by kernel_rfl) (Le.refl _) rfl
    · intro aq wd ld hfd hdd
      have hfd := Fr.cast (s' := [(43, (.bool true)), (11, (.int .i64 (makeE [(1, rootU [])] 1 s ⟨kind, m, u', gi', data, target, xs⟩))), (10, (.int .i64 0)), (9, (ptr b2 0)), (32, (.bool false)), (8, (ptr u1 0)), (7, (.bool true)), (6, (.bool false)), (3, (ptr b1 0)), (0, (.agg #[vn, (.int .i64 ino), (.int .i64 kind), (.int .i64 m), (.int .i64 u'), (.int .i64 gi'), vd, (.string target), vx, (.bool opq)])), (1, (.string s)), (2, (.int .i64 more))]) hfd (by kernel_rfl)
      obtain ⟨e2, _⟩ := hdd
      have hfd := Fr.add (t := 46) (v := (.bool true)) hfd e2
      exact G_val (v := (ptr u1 0)) (w' := wd) hfd rfl (by kernel_rfl) (by kernel_rfl) (Le.refl _) rfl
    · intro aq wd ld hfd hdd
      have hfd := Fr.cast (s' := [(43, (.bool true)), (11, (.int .i64 (makeE [(1, rootU [])] 1 s ⟨kind, m, u', gi', data, target, xs⟩))), (10, (.int .i64 0)), (9, (ptr b2 0)), (32, (.bool false)), (8, (ptr u1 0)), (7, (.bool true)), (6, (.bool false)), (3, (ptr b1 0)), (0, (.agg #[vn, (.int .i64 ino), (.int .i64 kind), (.int .i64 m), (.int .i64 u'), (.int .i64 gi'), vd, (.string target), vx, (.bool opq)])), (1, (.string s)), (2, (.int .i64 more))]) hfd (by kernel_rfl)
      obtain ⟨e3, e2, _, _⟩ := hdd
      have hfd := Fr.add (t := 47) (v := (ptr u1 0)) hfd e3
      have hfd := Fr.add (t := 46) (v := (.bool true)) hfd e2
      exact G_call (args := #[(ptr u1 0)]) (w := wd) hfd rfl (by kernel_rfl) (by kernel_rfl) (used_S u1 100 100000 2 ([(1, rootU [])]) _ _ _ _ (H.le ld) 1 64 rfl rfl (by decide)) fun v w' ⟨he, hl⟩ => ⟨hl, he⟩
    · intro aq wd ld hfd hdd
      have hfd := Fr.cast (s' := [(43, (.bool true)), (11, (.int .i64 (makeE [(1, rootU [])] 1 s ⟨kind, m, u', gi', data, target, xs⟩))), (10, (.int .i64 0)), (9, (ptr b2 0)), (32, (.bool false)), (8, (ptr u1 0)), (7, (.bool true)), (6, (.bool false)), (3, (ptr b1 0)), (0, (.agg #[vn, (.int .i64 ino), (.int .i64 kind), (.int .i64 m), (.int .i64 u'), (.int .i64 gi'), vd, (.string target), vx, (.bool opq)])), (1, (.string s)), (2, (.int .i64 more))]) hfd (by kernel_rfl)
      obtain ⟨e2, _⟩ := hdd
      have hfd := Fr.add (t := 46) (v := (.bool true)) hfd e2
      exact G_val hfd rfl (by kernel_rfl) (load_ev (run_load_row ((H.le ld).blk 1) Try.underlying33 rfl (vs := [(.int .i64 1), (.int .i64 64)]) (by kernel_rfl) rfl) rfl rfl) (Le.refl _) rfl
    intro aq21 w52 l25 hf9 fa9
    obtain ⟨_, _, qv23, _, qv24, qv25, _⟩ := fa9
    have hf9 := Fr.cast (s' := [(43, (.bool true)), (11, (.int .i64 (makeE [(1, rootU [])] 1 s ⟨kind, m, u', gi', data, target, xs⟩))), (10, (.int .i64 0)), (9, (ptr b2 0)), (32, (.bool false)), (8, (ptr u1 0)), (7, (.bool true)), (6, (.bool false)), (3, (ptr b1 0)), (0, (.agg #[vn, (.int .i64 ino), (.int .i64 kind), (.int .i64 m), (.int .i64 u'), (.int .i64 gi'), vd, (.string target), vx, (.bool opq)])), (1, (.string s)), (2, (.int .i64 more))]) hf9 (by kernel_rfl)
    have hf9 := Fr.add (t := 46) (v := (.bool true)) hf9 qv23
    have hf9 := Fr.add (t := 48) (v := (.agg #[(.int .i64 1), (.int .i64 64)])) hf9 qv24
    have hf9 := Fr.add (t := 49) (v := (.agg #[(.int .i64 1), (.int .i64 64)])) hf9 qv25
    replace H := H.le l25
    refine (?_ : wpR _ _ _ _ [(49, (.agg #[(.int .i64 1), (.int .i64 64)])), (48, (.agg #[(.int .i64 1), (.int .i64 64)])), (46, (.bool true)), (43, (.bool true)), (11, (.int .i64 (makeE [(1, rootU [])] 1 s ⟨kind, m, u', gi', data, target, xs⟩))), (10, (.int .i64 0)), (9, (ptr b2 0)), (32, (.bool false)), (8, (ptr u1 0)), (7, (.bool true)), (6, (.bool false)), (3, (ptr b1 0)), (0, (.agg #[vn, (.int .i64 ino), (.int .i64 kind), (.int .i64 m), (.int .i64 u'), (.int .i64 gi'), vd, (.string target), vx, (.bool opq)])), (1, (.string s)), (2, (.int .i64 more))] _ _) aq21 (hf9.sub ⟨rfl, rfl, rfl, rfl, rfl, rfl, rfl, rfl, rfl, rfl, rfl, rfl, rfl, rfl, rfl, trivial⟩)
    refine Rw (.bool ((1 == 1) && ((64 == 64) && true))) w52 (X_eql_struct rfl rfl rfl Try.underlying33 (by kernel_rfl) (by kernel_rfl) (eqF_int rfl Try.underlying3 (by kernel_rfl) rfl rfl (eqF_int rfl Try.underlying3 (by kernel_rfl) rfl rfl (eqF_nil)))) ?_
    refine Rv (.bool ((1 == 1) && ((64 == 64) && true))) w52 ?_
    refine Rv (.bool ((1 == 1) && ((64 == 64) && true))) w52 ?_
    refine wpR_nil ?_
    refine E_then_normal ?_
    refine C_ret ?_
    refine E_then_ret ?_
    refine E_ret (res_one rfl rfl) ⟨_, rfl, ?_⟩
    exact ⟨congrArg Value.bool (by first | (simp; done) | (simp; omega) | (simp_all; done) | (simp_all; omega)), H.toLe⟩
end Go.Proofs.Ytnmaehdklmgfmaa
