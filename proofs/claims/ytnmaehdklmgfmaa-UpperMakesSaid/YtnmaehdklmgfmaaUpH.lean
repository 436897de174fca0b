/- The laws of layer 17, walked. (Printed by a program of mine.) -/
import Derived.Test.YtnmaehdklmgfmaaUpG
import Derived.Test.YtnmaehdklmgfmaaLmGC
namespace Go.Proofs.Ytnmaehdklmgfmaa
open Go Go.RowKit Go.Lm
set_option linter.unusedVariables false in
set_option linter.unusedSimpArgs false in
set_option maxHeartbeats 4000000 in
set_option maxRecDepth 100000 in
theorem shown_any  (w : World) : Ret Try.prog 8 #[] w fun v w' => v = .bool true ∧ Le w w' := by
  have H := SL.start (Sees.refl w)
  refine enter (args := []) Try.func8 rfl rfl rfl ?_
  refine C_seq ?_
  refine C_region ?_
  refine Rv (.bool false) w ?_
  refine wpR_nil ?_
  refine E_then_normal ?_
  refine C_seq ?_
  refine C_region ?_
  refine Rv (.agg #[(.int .i64 9), (.int .i64 999)]) w ?_
  refine Rc #[(.agg #[(.int .i64 9), (.int .i64 999)])] w (new_S 9 999 _ _ _ _ H) ?_
  rintro _ w1 ⟨u1, rfl, Hn⟩
  replace H := Hn
  clear Hn
  refine Rv (ptr u1 0) w1 ?_
  refine wpR_nil ?_
  refine E_then_normal ?_
  refine C_seq ?_
  refine C_seq ?_
  refine Cs [(1, (ptr u1 0)), (0, (.bool false))] ?_
  refine C_region ?_
  refine Rv (ptr u1 0) w1 ?_
  refine Rv (.bool false) w1 ?_
  refine wpR_nil ?_
  refine E_then_normal ?_
  refine C_false rfl ?_
  refine C_skip ?_
  refine E_then_normal ?_
  refine C_seq ?_
  refine Cs [(11, (.bool false)), (1, (ptr u1 0)), (0, (.bool false))] ?_
  refine C_region ?_
  refine Rv (ptr u1 0) w1 ?_
  refine S_new (fun b => .slice (some ⟨b, 0, none⟩) 2 2) (.cells #[(.int .u8 104), (.int .u8 105)] 5) (by kernel_rfl) (by kernel_rfl) rfl rfl rfl fun b1 w2 n1 => ?_
  replace H := H.new n1
  refine S_convert_lit (α := UInt8) (ds := [[(.int .u8 104)], [(.int .u8 105)]]) (xs := [104, 105]) H ⟨rfl, rfl, trivial⟩ rfl rfl (by decide) Try.underlying25 Try.underlying5 rfl rfl rfl rfl rfl fun w3 g1 m1 Hn hx1 => ?_
  replace H := Hn
  clear Hn
  refine Rv (.agg #[(.slice none 0 0), (.int .i64 0), (.int .i64 2), (.int .i64 0), (.int .i64 0), (.int .i64 0), (.slice (some ⟨b1, 0, none⟩) 2 2), (.string (⟨#[]⟩)), (.slice none 0 0), (.bool false)]) w3 ?_
  refine Rc #[(ptr u1 0), (.int .i64 1), (.string (⟨#[97]⟩ : ByteArray)), (.agg #[(.slice none 0 0), (.int .i64 0), (.int .i64 2), (.int .i64 0), (.int .i64 0), (.int .i64 0), (.slice (some ⟨b1, 0, none⟩) 2 2), (.string (⟨#[]⟩)), (.slice none 0 0), (.bool false)])] w3 (make_S u1 9 999 2 ([(1, rootU [])]) 1 (⟨#[97]⟩ : ByteArray) (.slice none 0 0) 0 2 0 0 0 (.slice (some ⟨b1, 0, none⟩) 2 2) ([104, 105]) (⟨#[]⟩) (.slice none 0 0) [] false _ _ _ _ H 0 2 3 ([(2, fileN ([104, 105]) 1), (1, rootU [(⟨#[97]⟩, 2)])]) (mk1 _ _ (by rw [validN_list]; rfl) (by decide)) (mk1U _ _ (by rw [validN_list]; rfl) (by decide)) rfl rfl (by decide) (by first | decide | omega | (simp only [bstr_size]; omega) | (simp; omega)) hx1 (is_nil _) (by first | decide | omega | (simp only [bstr_size]; omega) | (simp; omega)) rfl (by decide) (by decide) (by decide) (ofGet rfl (by decide))) ?_
  rintro _ w4 ⟨g2, m2, Hn, rfl⟩
  replace H := Hn
  clear Hn
  refine Rv (.tuple #[(.int .i64 2), (.int .i64 0)]) w4 ?_
  refine Rv (.int .i64 2) w4 ?_
  refine Rv (.int .i64 0) w4 ?_
  refine Rv (.int .i64 2) w4 ?_
  refine Rv (.int .i64 0) w4 ?_
  refine wpR_nil ?_
  refine E_then_normal ?_
  refine C_seq ?_
  refine Cs [(3, (.int .i64 0)), (2, (.int .i64 2)), (11, (.bool false)), (1, (ptr u1 0)), (0, (.bool false))] ?_
  refine C_region ?_
  refine Rv (ptr u1 0) w4 ?_
  refine Rc #[(ptr u1 0), (.int .i64 1), (.string (⟨#[98]⟩ : ByteArray)), (.int .i64 2)] w4 (link_S u1 9 999 3 ([(2, fileN ([104, 105]) 1), (1, rootU [(⟨#[97]⟩, 2)])]) 1 (⟨#[98]⟩ : ByteArray) 2 _ _ _ _ H 0 ([(2, fileN ([104, 105]) 2), (1, rootU [(⟨#[98]⟩, 2), (⟨#[97]⟩, 2)])]) (lk1 _ _ _ (by rw [validN_list]; rfl) (by decide)) (lk1U _ _ _ (by rw [validN_list]; rfl) (by decide)) (by decide) (by first | decide | omega | (simp only [bstr_size]; omega) | (simp; omega)) (by decide) (ofGet rfl (by first | decide | (simp [fileN]; done) | (simp [fileN]; omega))) (ofGet rfl (by decide))) ?_
  rintro _ w5 ⟨g3, m3, Hn, rfl⟩
  replace H := Hn
  clear Hn
  refine Rv (.int .i64 0) w5 ?_
  refine wpR_nil ?_
  refine E_then_normal ?_
  refine C_seq ?_
  refine Cs [(4, (.int .i64 0)), (3, (.int .i64 0)), (2, (.int .i64 2)), (11, (.bool false)), (1, (ptr u1 0)), (0, (.bool false))] ?_
  refine C_region ?_
  refine Rv (ptr u1 0) w5 ?_
  refine Rc #[(ptr u1 0), (.int .i64 1), (.string (⟨#[97]⟩ : ByteArray))] w5 (remove_S u1 9 999 3 ([(2, fileN ([104, 105]) 2), (1, rootU [(⟨#[98]⟩, 2), (⟨#[97]⟩, 2)])]) 1 (⟨#[97]⟩ : ByteArray) _ _ _ _ H 0 ([(2, fileN ([104, 105]) 1), (1, rootU [(⟨#[98]⟩, 2)])]) (rm1 _ _ _ (by decide)) (rm1S _ _ _ (by decide)) (by decide) (by first | decide | omega | (simp only [bstr_size]; omega) | (simp; omega)) (ofGet2 rfl rfl rfl rfl (by first | decide | (simp [fileN]; done) | (simp [fileN]; omega)) (by first | decide | (simp [fileN]; done) | (simp [fileN]; omega)) (by decide))) ?_
  rintro _ w6 ⟨g4, m4, Hn, rfl⟩
  replace H := Hn
  clear Hn
  refine Rv (.int .i64 0) w6 ?_
  refine wpR_nil ?_
  refine E_then_normal ?_
  refine C_seq ?_
  refine Cs [(5, (.int .i64 0)), (4, (.int .i64 0)), (3, (.int .i64 0)), (2, (.int .i64 2)), (11, (.bool false)), (1, (ptr u1 0)), (0, (.bool false))] ?_
  refine C_region ?_
  refine Rv (ptr u1 0) w6 ?_
  refine Rc #[(ptr u1 0), (.int .i64 2)] w6 (stat_S u1 9 999 3 ([(2, fileN ([104, 105]) 1), (1, rootU [(⟨#[98]⟩, 2)])]) 2 (fileN [104, 105] 1) _ _ _ _ H rfl (by decide) (by decide)) ?_
  rintro _ w7 ⟨rfl, l1⟩
  replace H := H.le l1
  refine Rv (.tuple #[(.agg #[(.int .i64 2), (.int .i64 0), (.int .i64 0), (.int .i64 0), (.int .i64 1), (.int .i64 2)]), (.int .i64 0)]) w7 ?_
  refine Rv (.agg #[(.int .i64 2), (.int .i64 0), (.int .i64 0), (.int .i64 0), (.int .i64 1), (.int .i64 2)]) w7 ?_
  refine Rv (.int .i64 0) w7 ?_
  refine S_alloc #[(.int .i64 0), (.int .i64 0), (.int .i64 0), (.int .i64 0), (.int .i64 0), (.int .i64 0)] (by kernel_rfl) rfl rfl rfl rfl fun b2 w8 n2 => ?_
  replace H := H.new n2
  refine S_store (H.blk 0) rfl rfl rfl rfl rfl (by kernel_rfl) rfl (Nat.le_of_ble_eq_true rfl) #[(.int .i64 2), (.int .i64 0), (.int .i64 0), (.int .i64 0), (.int .i64 1), (.int .i64 2)] rfl fun w9 u2 => ?_
  replace H := H.upd 0 u2
  refine Rv (.int .i64 0) w9 ?_
  refine wpR_nil ?_
  refine E_then_normal ?_
  refine C_seq ?_
  refine Cs [(7, (.int .i64 0)), (6, (ptr b2 0)), (5, (.int .i64 0)), (4, (.int .i64 0)), (3, (.int .i64 0)), (2, (.int .i64 2)), (11, (.bool false)), (1, (ptr u1 0)), (0, (.bool false))] ?_
  refine C_region ?_
  refine Rv (.int .i64 2) w9 ?_
  refine Rv (.bool true) w9 ?_
  refine Rv (.bool true) w9 ?_
  refine Rv (.int .i64 0) w9 ?_
  refine Rv (.bool true) w9 ?_
  refine Rv (.bool true) w9 ?_
  refine Rv (.bool true) w9 ?_
  refine Rv (.int .i64 0) w9 ?_
  refine Rv (.bool true) w9 ?_
  refine Rv (.bool true) w9 ?_
  refine Rv (.bool true) w9 ?_
  refine Rv (.int .i64 0) w9 ?_
  refine Rv (.bool true) w9 ?_
  refine Rv (.bool true) w9 ?_
  refine Rv (.bool true) w9 ?_
  refine Rv (.int .i64 0) w9 ?_
  refine Rv (.bool true) w9 ?_
  refine Rv (.bool true) w9 ?_
  refine Rv (.bool true) w9 ?_
  refine S_load (run_load_row (H.blk 0) Try.underlying39 rfl (vs := [(.int .i64 2), (.int .i64 0), (.int .i64 0), (.int .i64 0), (.int .i64 1), (.int .i64 2)]) (by kernel_rfl) rfl) rfl rfl rfl rfl rfl ?_
  refine Rv (.agg #[(.int .i64 2), (.int .i64 0), (.int .i64 0), (.int .i64 0), (.int .i64 1), (.int .i64 2)]) w9 ?_
  refine Rw (.bool true) w9 (eq_bool (X_eql_struct rfl rfl rfl Try.underlying39 (by kernel_rfl) (by kernel_rfl) (eqF_int rfl Try.underlying3 (by kernel_rfl) rfl rfl (eqF_struct (n := 3) rfl Try.underlying24 (by kernel_rfl) (by kernel_rfl) (eqF_int rfl Try.underlying3 (by kernel_rfl) rfl rfl (eqF_int rfl Try.underlying3 (by kernel_rfl) rfl rfl (eqF_int rfl Try.underlying3 (by kernel_rfl) rfl rfl (eqF_nil)))) (eqF_int rfl Try.underlying3 (by kernel_rfl) rfl rfl (eqF_int rfl Try.underlying3 (by kernel_rfl) rfl rfl (eqF_nil)))))) (by simp)) ?_
  refine Rv (.bool true) w9 ?_
  refine Rv (.bool true) w9 ?_
  refine wpR_nil ?_
  refine E_then_normal ?_
  refine C_ret ?_
  refine E_ret (res_one rfl rfl) ⟨_, rfl, ?_⟩
  exact ⟨rfl, H.toLe⟩

set_option linter.unusedVariables false in
set_option linter.unusedSimpArgs false in
set_option maxHeartbeats 4000000 in
set_option maxRecDepth 100000 in
theorem upperLinks_any (b c : List UInt8) (v901 v902 : Value) (g w : World) (sees : Sees g w) (h_b : Is g v901 b) (h_c : Is g v902 c) : Ret Try.prog 5 #[v901, v902] w fun v w' => v = .bool true ∧ Le w w' := by
  have ln_h_b := h_b.len_le
  have ln_h_c := h_c.len_le
  have H := SL.start sees
  refine enter (args := [v901, v902]) Try.func5 rfl rfl rfl ?_
  refine C_seq ?_
  refine C_region ?_
  refine Rv (.bool false) w ?_
  refine wpR_nil ?_
  refine E_then_normal ?_
  refine C_seq ?_
  refine C_region ?_
  refine Rc #[] w (shown_any _) ?_
  rintro _ w1 ⟨rfl, l1⟩
  replace H := H.le l1
  refine Rv (.bool true) w1 ?_
  refine wpR_nil ?_
  refine E_then_normal ?_
  refine C_seq ?_
  refine Cs [(5, (.bool true)), (4, (.bool false)), (0, v901), (1, v902)] ?_
  refine C_region ?_
  refine Rv (.agg #[(.int .i64 0), (.int .i64 0)]) w1 ?_
  refine Rc #[(.agg #[(.int .i64 0), (.int .i64 0)])] w1 (new_S 0 0 _ _ _ _ H) ?_
  rintro _ w2 ⟨u1, rfl, Hn⟩
  replace H := Hn
  clear Hn
  refine Rv (ptr u1 0) w2 ?_
  refine wpR_nil ?_
  refine E_then_normal ?_
  refine C_seq ?_
  refine C_seq ?_
  refine Cs [(6, (ptr u1 0)), (5, (.bool true)), (4, (.bool false)), (0, v901), (1, v902)] ?_
  refine C_region ?_
  refine Rv (.bool true) w2 ?_
  refine Rv (.bool false) w2 ?_
  refine Rv (.bool false) w2 ?_
  refine Rv (ptr u1 0) w2 ?_
  refine Rv (.bool false) w2 ?_
  refine Rv (.bool false) w2 ?_
  refine wpR_nil ?_
  refine E_then_normal ?_
  refine C_false rfl ?_
  refine C_skip ?_
  refine E_then_normal ?_
  refine C_seq ?_
  refine C_seq ?_
  refine Cs [(28, (.bool false)), (6, (ptr u1 0)), (5, (.bool true)), (4, (.bool false)), (0, v901), (1, v902)] ?_
  refine C_region ?_
  refine Rv v901 w2 ?_
  refine Rw (.int .i64 (b.length : Int)) w2 (X_len (h_b.mono H.m) rfl Try.underlying25 rfl) ?_
  refine Rv (.bool (decide ((b.length : Int) > 300))) w2 ?_
  refine wpR_nil ?_
  refine E_then_normal ?_
  refine C_cond rfl (fun c1 => ?_) (fun c1 => ?_)
  · have d1 : (b.length : Int) > 300 := of_decide_eq_true c1
    refine Cs [(31, (.bool (decide ((b.length : Int) > 300)))), (28, (.bool false)), (6, (ptr u1 0)), (5, (.bool true)), (4, (.bool false)), (0, v901), (1, v902)] ?_
    refine C_region ?_
    refine Rv v901 w2 ?_
    refine Rw (sliceV 1 v901 0 300) w2 (X_slice (l := 0) (h := 300) (h_b.mono H.m) (by first | decide | omega | (simp only [bstr_size]; omega) | (simp; omega)) (by first | decide | omega | (simp only [bstr_size]; omega) | (simp; omega)) (by first | decide | omega | (simp only [bstr_size]; omega) | (simp; omega)) rfl Try.underlying25 (by kernel_rfl) rfl (.inl ⟨rfl, rfl⟩) (.inr ⟨_, rfl, rfl⟩)) ?_
    have hx1 : Is g (sliceV 1 v901 0 300) ((b.drop (0 : Int).toNat).take ((300 : Int).toNat - (0 : Int).toNat) : List UInt8) := (Is.slice (l := 0) (h := 300) h_b (by first | decide | omega | (simp only [bstr_size]; omega) | (simp; omega)) (by first | decide | omega | (simp only [bstr_size]; omega) | (simp; omega)) (by first | decide | omega | (simp only [bstr_size]; omega) | (simp; omega)))
    obtain ⟨sa1, sn1, sk1, se1⟩ := slice_form hx1
    rw [se1] at hx1
    rw [se1]
    obtain ⟨b1, hx1, lb1⟩ : ∃ b1 : List UInt8, Is g (.slice sa1 sn1 sk1) b1 ∧ b1.length ≤ 300 := ⟨_, hx1, by simp only [List.length_take, List.length_drop]; omega⟩
    refine Rv (.slice sa1 sn1 sk1) w2 ?_
    refine wpR_nil ?_
    refine E_then_normal ?_
    refine C_seq ?_
    refine C_seq ?_
    refine Cs [(0, (.slice sa1 sn1 sk1)), (31, (.bool (decide ((b.length : Int) > 300)))), (28, (.bool false)), (6, (ptr u1 0)), (5, (.bool true)), (4, (.bool false)), (1, v902)] ?_
    refine C_region ?_
    refine Rv v902 w2 ?_
    refine Rw (.int .i64 (c.length : Int)) w2 (X_len (h_c.mono H.m) rfl Try.underlying25 rfl) ?_
    refine Rv (.bool (decide ((c.length : Int) > 300))) w2 ?_
    refine wpR_nil ?_
    refine E_then_normal ?_
    refine C_cond rfl (fun c2 => ?_) (fun c2 => ?_)
    · have d2 : (c.length : Int) > 300 := of_decide_eq_true c2
      refine Cs [(36, (.bool (decide ((c.length : Int) > 300)))), (0, (.slice sa1 sn1 sk1)), (31, (.bool (decide ((b.length : Int) > 300)))), (28, (.bool false)), (6, (ptr u1 0)), (5, (.bool true)), (4, (.bool false)), (1, v902)] ?_
      refine C_region ?_
      refine Rv v902 w2 ?_
      refine Rw (sliceV 1 v902 0 300) w2 (X_slice (l := 0) (h := 300) (h_c.mono H.m) (by first | decide | omega | (simp only [bstr_size]; omega) | (simp; omega)) (by first | decide | omega | (simp only [bstr_size]; omega) | (simp; omega)) (by first | decide | omega | (simp only [bstr_size]; omega) | (simp; omega)) rfl Try.underlying25 (by kernel_rfl) rfl (.inl ⟨rfl, rfl⟩) (.inr ⟨_, rfl, rfl⟩)) ?_
      have hx2 : Is g (sliceV 1 v902 0 300) ((c.drop (0 : Int).toNat).take ((300 : Int).toNat - (0 : Int).toNat) : List UInt8) := (Is.slice (l := 0) (h := 300) h_c (by first | decide | omega | (simp only [bstr_size]; omega) | (simp; omega)) (by first | decide | omega | (simp only [bstr_size]; omega) | (simp; omega)) (by first | decide | omega | (simp only [bstr_size]; omega) | (simp; omega)))
      obtain ⟨sa2, sn2, sk2, se2⟩ := slice_form hx2
      rw [se2] at hx2
      rw [se2]
      obtain ⟨b2, hx2, lb2⟩ : ∃ b1 : List UInt8, Is g (.slice sa2 sn2 sk2) b1 ∧ b1.length ≤ 300 := ⟨_, hx2, by simp only [List.length_take, List.length_drop]; omega⟩
      refine Rv (.slice sa2 sn2 sk2) w2 ?_
      refine wpR_nil ?_
      refine E_then_normal ?_
      refine C_seq ?_
      refine Cs [(1, (.slice sa2 sn2 sk2)), (36, (.bool (decide ((c.length : Int) > 300)))), (0, (.slice sa1 sn1 sk1)), (31, (.bool (decide ((b.length : Int) > 300)))), (28, (.bool false)), (6, (ptr u1 0)), (5, (.bool true)), (4, (.bool false))] ?_
      refine C_region ?_
      refine Rv (ptr u1 0) w2 ?_
      refine Rv (.slice sa1 sn1 sk1) w2 ?_
      refine Rv (.agg #[(.slice none 0 0), (.int .i64 0), (.int .i64 2), (.int .i64 0), (.int .i64 0), (.int .i64 0), (.slice sa1 sn1 sk1), (.string (⟨#[]⟩)), (.slice none 0 0), (.bool false)]) w2 ?_
      refine Rc #[(ptr u1 0), (.int .i64 1), (.string (⟨#[97]⟩ : ByteArray)), (.agg #[(.slice none 0 0), (.int .i64 0), (.int .i64 2), (.int .i64 0), (.int .i64 0), (.int .i64 0), (.slice sa1 sn1 sk1), (.string (⟨#[]⟩)), (.slice none 0 0), (.bool false)])] w2 (make_S u1 0 0 2 ([(1, rootU [])]) 1 (⟨#[97]⟩ : ByteArray) (.slice none 0 0) 0 2 0 0 0 (.slice sa1 sn1 sk1) b1 (⟨#[]⟩) (.slice none 0 0) [] false _ _ _ _ H 0 2 3 ([(2, fileN b1 1), (1, rootU [(⟨#[97]⟩, 2)])]) (mk1 _ _ (by rw [validN_list]; rfl) (by omega)) (mk1U _ _ (by rw [validN_list]; rfl) (by omega)) rfl rfl (by decide) (by first | decide | omega | (simp only [bstr_size]; omega) | (simp; omega)) hx1 (is_nil _) (by first | decide | omega | (simp only [bstr_size]; omega) | (simp; omega)) rfl (by decide) (by decide) (by decide) (ofGet rfl (by decide))) ?_
      rintro _ w3 ⟨g1, m1, Hn, rfl⟩
      replace H := Hn
      clear Hn
      refine Rv (.tuple #[(.int .i64 2), (.int .i64 0)]) w3 ?_
      refine Rv (.int .i64 2) w3 ?_
      refine Rv (.int .i64 0) w3 ?_
      refine Rv (.int .i64 2) w3 ?_
      refine Rv (.int .i64 0) w3 ?_
      refine wpR_nil ?_
      refine E_then_normal ?_
      refine C_seq ?_
      refine Cs [(8, (.int .i64 0)), (7, (.int .i64 2)), (1, (.slice sa2 sn2 sk2)), (36, (.bool (decide ((c.length : Int) > 300)))), (0, (.slice sa1 sn1 sk1)), (31, (.bool (decide ((b.length : Int) > 300)))), (28, (.bool false)), (6, (ptr u1 0)), (5, (.bool true)), (4, (.bool false))] ?_
      refine C_region ?_
      refine Rv (ptr u1 0) w3 ?_
      refine Rv (.int .i64 2) w3 ?_
      refine Rc #[(ptr u1 0), (.int .i64 1), (.string (⟨#[98]⟩ : ByteArray)), (.int .i64 2)] w3 (link_S u1 0 0 3 ([(2, fileN b1 1), (1, rootU [(⟨#[97]⟩, 2)])]) 1 (⟨#[98]⟩ : ByteArray) 2 _ _ _ _ H 0 ([(2, fileN b1 2), (1, rootU [(⟨#[98]⟩, 2), (⟨#[97]⟩, 2)])]) (lk1 _ _ _ (by rw [validN_list]; rfl) (by decide)) (lk1U _ _ _ (by rw [validN_list]; rfl) (by decide)) (by decide) (by first | decide | omega | (simp only [bstr_size]; omega) | (simp; omega)) (by decide) (ofGet rfl (by first | decide | (simp [fileN]; done) | (simp [fileN]; omega))) (ofGet rfl (by decide))) ?_
      rintro _ w4 ⟨g2, m2, Hn, rfl⟩
      replace H := Hn
      clear Hn
      refine Rv (.int .i64 0) w4 ?_
      refine wpR_nil ?_
      refine E_then_normal ?_
      refine C_seq ?_
      refine Cs [(9, (.int .i64 0)), (8, (.int .i64 0)), (7, (.int .i64 2)), (1, (.slice sa2 sn2 sk2)), (36, (.bool (decide ((c.length : Int) > 300)))), (0, (.slice sa1 sn1 sk1)), (31, (.bool (decide ((b.length : Int) > 300)))), (28, (.bool false)), (6, (ptr u1 0)), (5, (.bool true)), (4, (.bool false))] ?_
      refine C_region ?_
      refine Rv (ptr u1 0) w4 ?_
      refine Rc #[(ptr u1 0), (.int .i64 1), (.string (⟨#[98]⟩ : ByteArray))] w4 (look_S u1 0 0 3 ([(2, fileN b1 2), (1, rootU [(⟨#[98]⟩, 2), (⟨#[97]⟩, 2)])]) 1 (⟨#[98]⟩ : ByteArray) (rootU [(⟨#[98]⟩, 2), (⟨#[97]⟩, 2)]) (fileN b1 2) 2 _ _ _ _ H rfl rfl rfl rfl (by decide) (by decide) (by first | decide | omega | (simp only [bstr_size]; omega) | (simp; omega))) ?_
      rintro _ w5 ⟨rfl, l2⟩
      replace H := H.le l2
      refine Rv (.tuple #[(.agg #[(.string (⟨#[98]⟩ : ByteArray)), (.int .i64 2), (.int .i64 2)]), (.int .i64 0)]) w5 ?_
      refine Rv (.agg #[(.string (⟨#[98]⟩ : ByteArray)), (.int .i64 2), (.int .i64 2)]) w5 ?_
      refine Rv (.int .i64 0) w5 ?_
      refine S_alloc #[(.string (⟨#[]⟩)), (.int .i64 0), (.int .i64 0)] (by kernel_rfl) rfl rfl rfl rfl fun b3 w6 n1 => ?_
      replace H := H.new n1
      refine S_store (H.blk 0) rfl rfl rfl rfl rfl (by kernel_rfl) rfl (Nat.le_of_ble_eq_true rfl) #[(.string (⟨#[98]⟩ : ByteArray)), (.int .i64 2), (.int .i64 2)] rfl fun w7 u2 => ?_
      replace H := H.upd 0 u2
      refine Rv (.int .i64 0) w7 ?_
      refine wpR_nil ?_
      refine E_then_normal ?_
      refine C_seq ?_
      refine Cs [(11, (.int .i64 0)), (10, (ptr b3 0)), (9, (.int .i64 0)), (8, (.int .i64 0)), (7, (.int .i64 2)), (1, (.slice sa2 sn2 sk2)), (36, (.bool (decide ((c.length : Int) > 300)))), (0, (.slice sa1 sn1 sk1)), (31, (.bool (decide ((b.length : Int) > 300)))), (28, (.bool false)), (6, (ptr u1 0)), (5, (.bool true)), (4, (.bool false))] ?_
      refine C_region ?_
      refine Rv (ptr u1 0) w7 ?_
      refine Rv (ptr b3 2) w7 ?_
      refine S_load (run_load_one (H.blk 0) Try.underlying3 rfl rfl) rfl rfl rfl rfl rfl ?_
      refine Rv (.slice sa1 sn1 sk1) w7 ?_
      refine Rw (.int .i64 (b1.length : Int)) w7 (X_len ((hx1.mono (m1.trans m2)).mono H.m) rfl Try.underlying25 rfl) ?_
      refine Rv (.slice sa2 sn2 sk2) w7 ?_
      replace H := H.pick 1
      refine Rc #[(ptr u1 0), (.int .i64 2), (.int .i64 (b1.length : Int)), (.slice sa2 sn2 sk2)] w7 (write_S u1 0 0 3 ([(2, fileN b1 2), (1, rootU [(⟨#[98]⟩, 2), (⟨#[97]⟩, 2)])]) 2 (b1.length : Int) b2 (.slice sa2 sn2 sk2) _ _ _ _ H 0 ([(2, fileN (b1 ++ b2) 2), (1, rootU [(⟨#[98]⟩, 2), (⟨#[97]⟩, 2)])]) (wrEnd _ _ _ _ _ rfl (by omega)) (wrEndU _ _ _ _ _ rfl (by omega)) (hx2.mono (m1.trans m2)) (by decide) (ofGet rfl (by show b1.length ≤ 1000000; omega))) ?_
      rintro _ w8 ⟨g3, m3, Hn, rfl⟩
      replace H := Hn
      clear Hn
      refine Rv (.int .i64 0) w8 ?_
      refine wpR_nil ?_
      refine E_then_normal ?_
      refine C_seq ?_
      refine Cs [(12, (.int .i64 0)), (11, (.int .i64 0)), (10, (ptr b3 0)), (9, (.int .i64 0)), (8, (.int .i64 0)), (7, (.int .i64 2)), (1, (.slice sa2 sn2 sk2)), (36, (.bool (decide ((c.length : Int) > 300)))), (0, (.slice sa1 sn1 sk1)), (31, (.bool (decide ((b.length : Int) > 300)))), (28, (.bool false)), (6, (ptr u1 0)), (5, (.bool true)), (4, (.bool false))] ?_
      refine C_region ?_
      refine Rv (ptr u1 0) w8 ?_
      refine Rc #[(ptr u1 0), (.int .i64 1), (.string (⟨#[97]⟩ : ByteArray))] w8 (look_S u1 0 0 3 ([(2, fileN (b1 ++ b2) 2), (1, rootU [(⟨#[98]⟩, 2), (⟨#[97]⟩, 2)])]) 1 (⟨#[97]⟩ : ByteArray) (rootU [(⟨#[98]⟩, 2), (⟨#[97]⟩, 2)]) (fileN (b1 ++ b2) 2) 2 _ _ _ _ H rfl rfl rfl rfl (by decide) (by decide) (by first | decide | omega | (simp only [bstr_size]; omega) | (simp; omega))) ?_
      rintro _ w9 ⟨rfl, l3⟩
      replace H := H.le l3
      refine Rv (.tuple #[(.agg #[(.string (⟨#[97]⟩ : ByteArray)), (.int .i64 2), (.int .i64 2)]), (.int .i64 0)]) w9 ?_
      refine Rv (.agg #[(.string (⟨#[97]⟩ : ByteArray)), (.int .i64 2), (.int .i64 2)]) w9 ?_
      refine Rv (.int .i64 0) w9 ?_
      refine S_alloc #[(.string (⟨#[]⟩)), (.int .i64 0), (.int .i64 0)] (by kernel_rfl) rfl rfl rfl rfl fun b4 w10 n2 => ?_
      replace H := H.new n2
      refine S_store (H.blk 0) rfl rfl rfl rfl rfl (by kernel_rfl) rfl (Nat.le_of_ble_eq_true rfl) #[(.string (⟨#[97]⟩ : ByteArray)), (.int .i64 2), (.int .i64 2)] rfl fun w11 u3 => ?_
      replace H := H.upd 0 u3
      refine Rv (.int .i64 0) w11 ?_
      refine wpR_nil ?_
      refine E_then_normal ?_
      refine C_seq ?_
      refine Cs [(14, (.int .i64 0)), (13, (ptr b4 0)), (12, (.int .i64 0)), (11, (.int .i64 0)), (10, (ptr b3 0)), (9, (.int .i64 0)), (8, (.int .i64 0)), (7, (.int .i64 2)), (1, (.slice sa2 sn2 sk2)), (36, (.bool (decide ((c.length : Int) > 300)))), (0, (.slice sa1 sn1 sk1)), (31, (.bool (decide ((b.length : Int) > 300)))), (28, (.bool false)), (6, (ptr u1 0)), (5, (.bool true)), (4, (.bool false))] ?_
      refine C_region ?_
      refine Rv (ptr u1 0) w11 ?_
      refine Rv (ptr b4 2) w11 ?_
      refine S_load (run_load_one (H.blk 0) Try.underlying3 rfl rfl) rfl rfl rfl rfl rfl ?_
      refine Rc #[(ptr u1 0), (.int .i64 2), (.int .i64 0), (.int .i64 4096)] w11 (read_S u1 0 0 3 ([(2, fileN (b1 ++ b2) 2), (1, rootU [(⟨#[98]⟩, 2), (⟨#[97]⟩, 2)])]) 2 0 4096 _ _ _ _ (H.pick 1) 0 (b1 ++ b2) (rd1 _ _ _) (rd1U _ _ _ (by rw [List.length_append]; omega)) (by decide) (by decide)) ?_
      rintro _ w12 ⟨v1, rfl, hx3, l4⟩
      obtain ⟨g4, hg1, m4, H⟩ := H.data l4
      rw [hg1] at hx3
      have ln_hx3 := hx3.len_le
      refine Rv (.tuple #[v1, (.int .i64 0)]) w12 ?_
      refine Rv v1 w12 ?_
      refine Rv (.int .i64 0) w12 ?_
      refine Rv v1 w12 ?_
      refine Rv (.int .i64 0) w12 ?_
      refine wpR_nil ?_
      refine E_then_normal ?_
      refine C_seq ?_
      refine Cs [(16, (.int .i64 0)), (15, v1), (14, (.int .i64 0)), (13, (ptr b4 0)), (12, (.int .i64 0)), (11, (.int .i64 0)), (10, (ptr b3 0)), (9, (.int .i64 0)), (8, (.int .i64 0)), (7, (.int .i64 2)), (1, (.slice sa2 sn2 sk2)), (36, (.bool (decide ((c.length : Int) > 300)))), (0, (.slice sa1 sn1 sk1)), (31, (.bool (decide ((b.length : Int) > 300)))), (28, (.bool false)), (6, (ptr u1 0)), (5, (.bool true)), (4, (.bool false))] ?_
      refine C_region ?_
      refine Rv (ptr u1 0) w12 ?_
      replace H := H.pick 1
      refine Rc #[(ptr u1 0), (.int .i64 1), (.string (⟨#[97]⟩ : ByteArray))] w12 (remove_S u1 0 0 3 ([(2, fileN (b1 ++ b2) 2), (1, rootU [(⟨#[98]⟩, 2), (⟨#[97]⟩, 2)])]) 1 (⟨#[97]⟩ : ByteArray) _ _ _ _ H 0 ([(2, fileN (b1 ++ b2) 1), (1, rootU [(⟨#[98]⟩, 2)])]) (rm1 _ _ _ (by decide)) (rm1S _ _ _ (by decide)) (by decide) (by first | decide | omega | (simp only [bstr_size]; omega) | (simp; omega)) (ofGet2 rfl rfl rfl rfl (by first | decide | (simp [fileN]; done) | (simp [fileN]; omega)) (by first | decide | (simp [fileN]; done) | (simp [fileN]; omega)) (by decide))) ?_
      rintro _ w13 ⟨g5, m5, Hn, rfl⟩
      replace H := Hn
      clear Hn
      refine Rv (.int .i64 0) w13 ?_
      refine wpR_nil ?_
      refine E_then_normal ?_
      refine C_seq ?_
      refine Cs [(17, (.int .i64 0)), (16, (.int .i64 0)), (15, v1), (14, (.int .i64 0)), (13, (ptr b4 0)), (12, (.int .i64 0)), (11, (.int .i64 0)), (10, (ptr b3 0)), (9, (.int .i64 0)), (8, (.int .i64 0)), (7, (.int .i64 2)), (1, (.slice sa2 sn2 sk2)), (36, (.bool (decide ((c.length : Int) > 300)))), (0, (.slice sa1 sn1 sk1)), (31, (.bool (decide ((b.length : Int) > 300)))), (28, (.bool false)), (6, (ptr u1 0)), (5, (.bool true)), (4, (.bool false))] ?_
      refine C_region ?_
      refine Rv (ptr u1 0) w13 ?_
      refine Rv (.int .i64 2) w13 ?_
      refine Rc #[(ptr u1 0), (.int .i64 2)] w13 (stat_S u1 0 0 3 ([(2, fileN (b1 ++ b2) 1), (1, rootU [(⟨#[98]⟩, 2)])]) 2 (fileN (b1 ++ b2) 1) _ _ _ _ H rfl (by show (b1 ++ b2).length + 0 + 0 ≤ _; rw [List.length_append]; omega) (by decide)) ?_
      rintro _ w14 ⟨rfl, l5⟩
      replace H := H.le l5
      refine Rv (.tuple #[(.agg #[(.int .i64 2), (.int .i64 0), (.int .i64 0), (.int .i64 0), (.int .i64 1), (.int .i64 (((b1 ++ b2).length : Int) + ((0 : Nat) : Int) + ((0 : Nat) : Int)))]), (.int .i64 0)]) w14 ?_
      refine Rv (.agg #[(.int .i64 2), (.int .i64 0), (.int .i64 0), (.int .i64 0), (.int .i64 1), (.int .i64 (((b1 ++ b2).length : Int) + ((0 : Nat) : Int) + ((0 : Nat) : Int)))]) w14 ?_
      refine Rv (.int .i64 0) w14 ?_
      refine S_alloc #[(.int .i64 0), (.int .i64 0), (.int .i64 0), (.int .i64 0), (.int .i64 0), (.int .i64 0)] (by kernel_rfl) rfl rfl rfl rfl fun b5 w15 n3 => ?_
      replace H := H.new n3
      refine S_store (H.blk 0) rfl rfl rfl rfl rfl (by kernel_rfl) rfl (Nat.le_of_ble_eq_true rfl) #[(.int .i64 2), (.int .i64 0), (.int .i64 0), (.int .i64 0), (.int .i64 1), (.int .i64 (((b1 ++ b2).length : Int) + ((0 : Nat) : Int) + ((0 : Nat) : Int)))] rfl fun w16 u4 => ?_
      replace H := H.upd 0 u4
      refine Rv (.int .i64 0) w16 ?_
      refine wpR_nil ?_
      refine E_then_normal ?_
      refine C_seq ?_
      refine Cs [(19, (.int .i64 0)), (18, (ptr b5 0)), (17, (.int .i64 0)), (16, (.int .i64 0)), (15, v1), (14, (.int .i64 0)), (13, (ptr b4 0)), (12, (.int .i64 0)), (11, (.int .i64 0)), (10, (ptr b3 0)), (9, (.int .i64 0)), (8, (.int .i64 0)), (7, (.int .i64 2)), (1, (.slice sa2 sn2 sk2)), (36, (.bool (decide ((c.length : Int) > 300)))), (0, (.slice sa1 sn1 sk1)), (31, (.bool (decide ((b.length : Int) > 300)))), (28, (.bool false)), (6, (ptr u1 0)), (5, (.bool true)), (4, (.bool false))] ?_
      refine C_region ?_
      refine Rv (.int .i64 0) w16 ?_
      refine Rv (.bool true) w16 ?_
      refine Rv (.bool true) w16 ?_
      refine Rv (.int .i64 0) w16 ?_
      refine Rv (.bool true) w16 ?_
      refine Rv (.bool true) w16 ?_
      refine Rv (.bool true) w16 ?_
      refine Rv (.int .i64 0) w16 ?_
      refine Rv (.bool true) w16 ?_
      refine Rv (.bool true) w16 ?_
      refine Rv (.bool true) w16 ?_
      refine Rv (.int .i64 0) w16 ?_
      refine Rv (.bool true) w16 ?_
      refine Rv (.bool true) w16 ?_
      refine Rv (.bool true) w16 ?_
      refine Rv (.int .i64 0) w16 ?_
      refine Rv (.bool true) w16 ?_
      refine Rv (.bool true) w16 ?_
      refine Rv (.bool true) w16 ?_
      refine Rv (.int .i64 0) w16 ?_
      refine Rv (.bool true) w16 ?_
      refine Rv (.bool true) w16 ?_
      refine Rv (.bool true) w16 ?_
      refine Rv (ptr b3 2) w16 ?_
      refine S_load (run_load_one (H.blk 3) Try.underlying3 rfl rfl) rfl rfl rfl rfl rfl ?_
      refine Rv (.int .i64 2) w16 ?_
      refine Rv (.bool true) w16 ?_
      refine Rv (.bool true) w16 ?_
      refine Rv (.bool true) w16 ?_
      refine Rv v1 w16 ?_
      refine Rw (.string (bstr (b1 ++ b2))) w16 (X_convert_str ((hx3.mono m5).mono H.m) rfl rfl Try.underlying25 Try.underlying5 Try.underlying9) ?_
      refine Rv (.slice sa1 sn1 sk1) w16 ?_
      refine Rw (.string (bstr b1)) w16 (X_convert_str ((hx1.mono ((((m1.trans m2).trans m3).trans m4).trans m5)).mono H.m) rfl rfl Try.underlying25 Try.underlying5 Try.underlying9) ?_
      refine Rv (.slice sa2 sn2 sk2) w16 ?_
      refine Rw (.string (bstr b2)) w16 (X_convert_str ((hx2.mono ((((m1.trans m2).trans m3).trans m4).trans m5)).mono H.m) rfl rfl Try.underlying25 Try.underlying5 Try.underlying9) ?_
      refine Rw (.string ((bstr b1) ++ (bstr b2))) w16 (X_add_str (by first | decide | omega | (simp only [bstr_size]; omega) | (simp; omega)) rfl rfl rfl) ?_
      refine Rv (.bool ((bstr (b1 ++ b2)).toList == ((bstr b1) ++ (bstr b2)).toList)) w16 ?_
      refine Rv (.bool ((bstr (b1 ++ b2)).toList == ((bstr b1) ++ (bstr b2)).toList)) w16 ?_
      rcases Bool.eq_false_or_eq_true ((bstr (b1 ++ b2)).toList == ((bstr b1) ++ (bstr b2)).toList) with c3 | c3
      · refine Rw (.bool true) w16 (eq_bool (by kernel_rfl) c3) ?_
        refine Rv (.int .i64 0) w16 ?_
        refine Rv (.bool true) w16 ?_
        refine Rv (.bool true) w16 ?_
        refine Rv (.bool true) w16 ?_
        refine Rv (.int .i64 0) w16 ?_
        refine Rv (.bool true) w16 ?_
        refine Rv (.bool true) w16 ?_
        refine Rv (.bool true) w16 ?_
        refine Rv (ptr b5 4) w16 ?_
        refine S_load (run_load_one (H.blk 0) Try.underlying3 rfl rfl) rfl rfl rfl rfl rfl ?_
        refine Rv (.bool true) w16 ?_
        refine Rv (.bool true) w16 ?_
        refine Rv (.bool true) w16 ?_
        refine Rv (ptr b5 5) w16 ?_
        refine S_load (run_load_one (H.blk 0) Try.underlying3 rfl rfl) rfl rfl rfl rfl rfl ?_
        refine Rv (.slice sa1 sn1 sk1) w16 ?_
        refine Rw (.int .i64 (b1.length : Int)) w16 (X_len ((hx1.mono ((((m1.trans m2).trans m3).trans m4).trans m5)).mono H.m) rfl Try.underlying25 rfl) ?_
        refine Rv (.slice sa2 sn2 sk2) w16 ?_
        refine Rw (.int .i64 (b2.length : Int)) w16 (X_len ((hx2.mono ((((m1.trans m2).trans m3).trans m4).trans m5)).mono H.m) rfl Try.underlying25 rfl) ?_
        refine Rw (.int .i64 ((b1.length : Int) + (b2.length : Int))) w16 (eq_int (by kernel_rfl) (wrap64_in (by first | decide | omega | (simp only [bstr_size]; omega) | (simp; omega)) (by first | decide | omega | (simp only [bstr_size]; omega) | (simp; omega)))) ?_
        refine Rv (.bool ((((b1 ++ b2).length : Int) + ((0 : Nat) : Int) + ((0 : Nat) : Int)) == ((b1.length : Int) + (b2.length : Int)))) w16 ?_
        refine Rv (.bool ((((b1 ++ b2).length : Int) + ((0 : Nat) : Int) + ((0 : Nat) : Int)) == ((b1.length : Int) + (b2.length : Int)))) w16 ?_
        refine Rv (.bool ((((b1 ++ b2).length : Int) + ((0 : Nat) : Int) + ((0 : Nat) : Int)) == ((b1.length : Int) + (b2.length : Int)))) w16 ?_
        refine wpR_nil ?_
        refine E_then_normal ?_
        refine C_ret ?_
        refine E_ret (res_one rfl rfl) ⟨_, rfl, ?_⟩
        exact ⟨congrArg Value.bool (by first | exact bstr_app_eq _ _ | (simp; done) | (simp; omega) | (simp_all; done) | (simp_all; omega)), H.toLe⟩
      · refine Rw (.bool false) w16 (eq_bool (by kernel_rfl) c3) ?_
        iterate 2 refine Rs ?_
        refine Rv (.bool false) w16 ?_
        refine Rv (.bool false) w16 ?_
        iterate 2 refine Rs ?_
        refine Rv (.bool false) w16 ?_
        refine Rv (.bool false) w16 ?_
        iterate 3 refine Rs ?_
        refine Rv (.bool false) w16 ?_
        refine Rv (.bool false) w16 ?_
        iterate 8 refine Rs ?_
        refine Rv (.bool false) w16 ?_
        refine Rv (.bool false) w16 ?_
        refine wpR_nil ?_
        refine E_then_normal ?_
        refine C_ret ?_
        refine E_ret (res_one rfl rfl) ⟨_, rfl, ?_⟩
        exact absurd ((by first | exact bstr_app_eq _ _ | (simp; done) | (simp; omega) | (simp_all; done) | (simp_all; omega) : ((bstr (b1 ++ b2)).toList == ((bstr b1) ++ (bstr b2)).toList) = true).symm.trans c3) (by decide)
    · have d2 : ¬ (c.length : Int) > 300 := of_decide_eq_false c2
      refine C_skip ?_
      refine E_then_normal ?_
      refine C_seq ?_
      refine Cs [(36, (.bool (decide ((c.length : Int) > 300)))), (0, (.slice sa1 sn1 sk1)), (31, (.bool (decide ((b.length : Int) > 300)))), (28, (.bool false)), (6, (ptr u1 0)), (5, (.bool true)), (4, (.bool false)), (1, v902)] ?_
      refine C_region ?_
      refine Rv (ptr u1 0) w2 ?_
      refine Rv (.slice sa1 sn1 sk1) w2 ?_
      refine Rv (.agg #[(.slice none 0 0), (.int .i64 0), (.int .i64 2), (.int .i64 0), (.int .i64 0), (.int .i64 0), (.slice sa1 sn1 sk1), (.string (⟨#[]⟩)), (.slice none 0 0), (.bool false)]) w2 ?_
      refine Rc #[(ptr u1 0), (.int .i64 1), (.string (⟨#[97]⟩ : ByteArray)), (.agg #[(.slice none 0 0), (.int .i64 0), (.int .i64 2), (.int .i64 0), (.int .i64 0), (.int .i64 0), (.slice sa1 sn1 sk1), (.string (⟨#[]⟩)), (.slice none 0 0), (.bool false)])] w2 (make_S u1 0 0 2 ([(1, rootU [])]) 1 (⟨#[97]⟩ : ByteArray) (.slice none 0 0) 0 2 0 0 0 (.slice sa1 sn1 sk1) b1 (⟨#[]⟩) (.slice none 0 0) [] false _ _ _ _ H 0 2 3 ([(2, fileN b1 1), (1, rootU [(⟨#[97]⟩, 2)])]) (mk1 _ _ (by rw [validN_list]; rfl) (by omega)) (mk1U _ _ (by rw [validN_list]; rfl) (by omega)) rfl rfl (by decide) (by first | decide | omega | (simp only [bstr_size]; omega) | (simp; omega)) hx1 (is_nil _) (by first | decide | omega | (simp only [bstr_size]; omega) | (simp; omega)) rfl (by decide) (by decide) (by decide) (ofGet rfl (by decide))) ?_
      rintro _ w17 ⟨g6, m6, Hn, rfl⟩
      replace H := Hn
      clear Hn
      refine Rv (.tuple #[(.int .i64 2), (.int .i64 0)]) w17 ?_
      refine Rv (.int .i64 2) w17 ?_
      refine Rv (.int .i64 0) w17 ?_
      refine Rv (.int .i64 2) w17 ?_
      refine Rv (.int .i64 0) w17 ?_
      refine wpR_nil ?_
      refine E_then_normal ?_
      refine C_seq ?_
      refine Cs [(8, (.int .i64 0)), (7, (.int .i64 2)), (36, (.bool (decide ((c.length : Int) > 300)))), (0, (.slice sa1 sn1 sk1)), (31, (.bool (decide ((b.length : Int) > 300)))), (28, (.bool false)), (6, (ptr u1 0)), (5, (.bool true)), (4, (.bool false)), (1, v902)] ?_
      refine C_region ?_
      refine Rv (ptr u1 0) w17 ?_
      refine Rv (.int .i64 2) w17 ?_
      refine Rc #[(ptr u1 0), (.int .i64 1), (.string (⟨#[98]⟩ : ByteArray)), (.int .i64 2)] w17 (link_S u1 0 0 3 ([(2, fileN b1 1), (1, rootU [(⟨#[97]⟩, 2)])]) 1 (⟨#[98]⟩ : ByteArray) 2 _ _ _ _ H 0 ([(2, fileN b1 2), (1, rootU [(⟨#[98]⟩, 2), (⟨#[97]⟩, 2)])]) (lk1 _ _ _ (by rw [validN_list]; rfl) (by decide)) (lk1U _ _ _ (by rw [validN_list]; rfl) (by decide)) (by decide) (by first | decide | omega | (simp only [bstr_size]; omega) | (simp; omega)) (by decide) (ofGet rfl (by first | decide | (simp [fileN]; done) | (simp [fileN]; omega))) (ofGet rfl (by decide))) ?_
      rintro _ w18 ⟨g7, m7, Hn, rfl⟩
      replace H := Hn
      clear Hn
      refine Rv (.int .i64 0) w18 ?_
      refine wpR_nil ?_
      refine E_then_normal ?_
      refine C_seq ?_
      refine Cs [(9, (.int .i64 0)), (8, (.int .i64 0)), (7, (.int .i64 2)), (36, (.bool (decide ((c.length : Int) > 300)))), (0, (.slice sa1 sn1 sk1)), (31, (.bool (decide ((b.length : Int) > 300)))), (28, (.bool false)), (6, (ptr u1 0)), (5, (.bool true)), (4, (.bool false)), (1, v902)] ?_
      refine C_region ?_
      refine Rv (ptr u1 0) w18 ?_
      refine Rc #[(ptr u1 0), (.int .i64 1), (.string (⟨#[98]⟩ : ByteArray))] w18 (look_S u1 0 0 3 ([(2, fileN b1 2), (1, rootU [(⟨#[98]⟩, 2), (⟨#[97]⟩, 2)])]) 1 (⟨#[98]⟩ : ByteArray) (rootU [(⟨#[98]⟩, 2), (⟨#[97]⟩, 2)]) (fileN b1 2) 2 _ _ _ _ H rfl rfl rfl rfl (by decide) (by decide) (by first | decide | omega | (simp only [bstr_size]; omega) | (simp; omega))) ?_
      rintro _ w19 ⟨rfl, l6⟩
      replace H := H.le l6
      refine Rv (.tuple #[(.agg #[(.string (⟨#[98]⟩ : ByteArray)), (.int .i64 2), (.int .i64 2)]), (.int .i64 0)]) w19 ?_
      refine Rv (.agg #[(.string (⟨#[98]⟩ : ByteArray)), (.int .i64 2), (.int .i64 2)]) w19 ?_
      refine Rv (.int .i64 0) w19 ?_
      refine S_alloc #[(.string (⟨#[]⟩)), (.int .i64 0), (.int .i64 0)] (by kernel_rfl) rfl rfl rfl rfl fun b6 w20 n4 => ?_
      replace H := H.new n4
      refine S_store (H.blk 0) rfl rfl rfl rfl rfl (by kernel_rfl) rfl (Nat.le_of_ble_eq_true rfl) #[(.string (⟨#[98]⟩ : ByteArray)), (.int .i64 2), (.int .i64 2)] rfl fun w21 u5 => ?_
      replace H := H.upd 0 u5
      refine Rv (.int .i64 0) w21 ?_
      refine wpR_nil ?_
      refine E_then_normal ?_
      refine C_seq ?_
      refine Cs [(11, (.int .i64 0)), (10, (ptr b6 0)), (9, (.int .i64 0)), (8, (.int .i64 0)), (7, (.int .i64 2)), (36, (.bool (decide ((c.length : Int) > 300)))), (0, (.slice sa1 sn1 sk1)), (31, (.bool (decide ((b.length : Int) > 300)))), (28, (.bool false)), (6, (ptr u1 0)), (5, (.bool true)), (4, (.bool false)), (1, v902)] ?_
      refine C_region ?_
      refine Rv (ptr u1 0) w21 ?_
      refine Rv (ptr b6 2) w21 ?_
      refine S_load (run_load_one (H.blk 0) Try.underlying3 rfl rfl) rfl rfl rfl rfl rfl ?_
      refine Rv (.slice sa1 sn1 sk1) w21 ?_
      refine Rw (.int .i64 (b1.length : Int)) w21 (X_len ((hx1.mono (m6.trans m7)).mono H.m) rfl Try.underlying25 rfl) ?_
      refine Rv v902 w21 ?_
      replace H := H.pick 1
      refine Rc #[(ptr u1 0), (.int .i64 2), (.int .i64 (b1.length : Int)), v902] w21 (write_S u1 0 0 3 ([(2, fileN b1 2), (1, rootU [(⟨#[98]⟩, 2), (⟨#[97]⟩, 2)])]) 2 (b1.length : Int) c v902 _ _ _ _ H 0 ([(2, fileN (b1 ++ c) 2), (1, rootU [(⟨#[98]⟩, 2), (⟨#[97]⟩, 2)])]) (wrEnd _ _ _ _ _ rfl (by omega)) (wrEndU _ _ _ _ _ rfl (by omega)) (h_c.mono (m6.trans m7)) (by decide) (ofGet rfl (by show b1.length ≤ 1000000; omega))) ?_
      rintro _ w22 ⟨g8, m8, Hn, rfl⟩
      replace H := Hn
      clear Hn
      refine Rv (.int .i64 0) w22 ?_
      refine wpR_nil ?_
      refine E_then_normal ?_
      refine C_seq ?_
      refine Cs [(12, (.int .i64 0)), (11, (.int .i64 0)), (10, (ptr b6 0)), (9, (.int .i64 0)), (8, (.int .i64 0)), (7, (.int .i64 2)), (36, (.bool (decide ((c.length : Int) > 300)))), (0, (.slice sa1 sn1 sk1)), (31, (.bool (decide ((b.length : Int) > 300)))), (28, (.bool false)), (6, (ptr u1 0)), (5, (.bool true)), (4, (.bool false)), (1, v902)] ?_
      refine C_region ?_
      refine Rv (ptr u1 0) w22 ?_
      refine Rc #[(ptr u1 0), (.int .i64 1), (.string (⟨#[97]⟩ : ByteArray))] w22 (look_S u1 0 0 3 ([(2, fileN (b1 ++ c) 2), (1, rootU [(⟨#[98]⟩, 2), (⟨#[97]⟩, 2)])]) 1 (⟨#[97]⟩ : ByteArray) (rootU [(⟨#[98]⟩, 2), (⟨#[97]⟩, 2)]) (fileN (b1 ++ c) 2) 2 _ _ _ _ H rfl rfl rfl rfl (by decide) (by decide) (by first | decide | omega | (simp only [bstr_size]; omega) | (simp; omega))) ?_
      rintro _ w23 ⟨rfl, l7⟩
      replace H := H.le l7
      refine Rv (.tuple #[(.agg #[(.string (⟨#[97]⟩ : ByteArray)), (.int .i64 2), (.int .i64 2)]), (.int .i64 0)]) w23 ?_
      refine Rv (.agg #[(.string (⟨#[97]⟩ : ByteArray)), (.int .i64 2), (.int .i64 2)]) w23 ?_
      refine Rv (.int .i64 0) w23 ?_
      refine S_alloc #[(.string (⟨#[]⟩)), (.int .i64 0), (.int .i64 0)] (by kernel_rfl) rfl rfl rfl rfl fun b7 w24 n5 => ?_
      replace H := H.new n5
      refine S_store (H.blk 0) rfl rfl rfl rfl rfl (by kernel_rfl) rfl (Nat.le_of_ble_eq_true rfl) #[(.string (⟨#[97]⟩ : ByteArray)), (.int .i64 2), (.int .i64 2)] rfl fun w25 u6 => ?_
      replace H := H.upd 0 u6
      refine Rv (.int .i64 0) w25 ?_
      refine wpR_nil ?_
      refine E_then_normal ?_
      refine C_seq ?_
      refine Cs [(14, (.int .i64 0)), (13, (ptr b7 0)), (12, (.int .i64 0)), (11, (.int .i64 0)), (10, (ptr b6 0)), (9, (.int .i64 0)), (8, (.int .i64 0)), (7, (.int .i64 2)), (36, (.bool (decide ((c.length : Int) > 300)))), (0, (.slice sa1 sn1 sk1)), (31, (.bool (decide ((b.length : Int) > 300)))), (28, (.bool false)), (6, (ptr u1 0)), (5, (.bool true)), (4, (.bool false)), (1, v902)] ?_
      refine C_region ?_
      refine Rv (ptr u1 0) w25 ?_
      refine Rv (ptr b7 2) w25 ?_
      refine S_load (run_load_one (H.blk 0) Try.underlying3 rfl rfl) rfl rfl rfl rfl rfl ?_
      refine Rc #[(ptr u1 0), (.int .i64 2), (.int .i64 0), (.int .i64 4096)] w25 (read_S u1 0 0 3 ([(2, fileN (b1 ++ c) 2), (1, rootU [(⟨#[98]⟩, 2), (⟨#[97]⟩, 2)])]) 2 0 4096 _ _ _ _ (H.pick 1) 0 (b1 ++ c) (rd1 _ _ _) (rd1U _ _ _ (by rw [List.length_append]; omega)) (by decide) (by decide)) ?_
      rintro _ w26 ⟨v2, rfl, hx4, l8⟩
      obtain ⟨g9, hg2, m9, H⟩ := H.data l8
      rw [hg2] at hx4
      have ln_hx4 := hx4.len_le
      refine Rv (.tuple #[v2, (.int .i64 0)]) w26 ?_
      refine Rv v2 w26 ?_
      refine Rv (.int .i64 0) w26 ?_
      refine Rv v2 w26 ?_
      refine Rv (.int .i64 0) w26 ?_
      refine wpR_nil ?_
      refine E_then_normal ?_
      refine C_seq ?_
      refine Cs [(16, (.int .i64 0)), (15, v2), (14, (.int .i64 0)), (13, (ptr b7 0)), (12, (.int .i64 0)), (11, (.int .i64 0)), (10, (ptr b6 0)), (9, (.int .i64 0)), (8, (.int .i64 0)), (7, (.int .i64 2)), (36, (.bool (decide ((c.length : Int) > 300)))), (0, (.slice sa1 sn1 sk1)), (31, (.bool (decide ((b.length : Int) > 300)))), (28, (.bool false)), (6, (ptr u1 0)), (5, (.bool true)), (4, (.bool false)), (1, v902)] ?_
      refine C_region ?_
      refine Rv (ptr u1 0) w26 ?_
      replace H := H.pick 1
      refine Rc #[(ptr u1 0), (.int .i64 1), (.string (⟨#[97]⟩ : ByteArray))] w26 (remove_S u1 0 0 3 ([(2, fileN (b1 ++ c) 2), (1, rootU [(⟨#[98]⟩, 2), (⟨#[97]⟩, 2)])]) 1 (⟨#[97]⟩ : ByteArray) _ _ _ _ H 0 ([(2, fileN (b1 ++ c) 1), (1, rootU [(⟨#[98]⟩, 2)])]) (rm1 _ _ _ (by decide)) (rm1S _ _ _ (by decide)) (by decide) (by first | decide | omega | (simp only [bstr_size]; omega) | (simp; omega)) (ofGet2 rfl rfl rfl rfl (by first | decide | (simp [fileN]; done) | (simp [fileN]; omega)) (by first | decide | (simp [fileN]; done) | (simp [fileN]; omega)) (by decide))) ?_
      rintro _ w27 ⟨g10, m10, Hn, rfl⟩
      replace H := Hn
      clear Hn
      refine Rv (.int .i64 0) w27 ?_
      refine wpR_nil ?_
      refine E_then_normal ?_
      refine C_seq ?_
      refine Cs [(17, (.int .i64 0)), (16, (.int .i64 0)), (15, v2), (14, (.int .i64 0)), (13, (ptr b7 0)), (12, (.int .i64 0)), (11, (.int .i64 0)), (10, (ptr b6 0)), (9, (.int .i64 0)), (8, (.int .i64 0)), (7, (.int .i64 2)), (36, (.bool (decide ((c.length : Int) > 300)))), (0, (.slice sa1 sn1 sk1)), (31, (.bool (decide ((b.length : Int) > 300)))), (28, (.bool false)), (6, (ptr u1 0)), (5, (.bool true)), (4, (.bool false)), (1, v902)] ?_
      refine C_region ?_
      refine Rv (ptr u1 0) w27 ?_
      refine Rv (.int .i64 2) w27 ?_
      refine Rc #[(ptr u1 0), (.int .i64 2)] w27 (stat_S u1 0 0 3 ([(2, fileN (b1 ++ c) 1), (1, rootU [(⟨#[98]⟩, 2)])]) 2 (fileN (b1 ++ c) 1) _ _ _ _ H rfl (by show (b1 ++ c).length + 0 + 0 ≤ _; rw [List.length_append]; omega) (by decide)) ?_
      rintro _ w28 ⟨rfl, l9⟩
      replace H := H.le l9
      refine Rv (.tuple #[(.agg #[(.int .i64 2), (.int .i64 0), (.int .i64 0), (.int .i64 0), (.int .i64 1), (.int .i64 (((b1 ++ c).length : Int) + ((0 : Nat) : Int) + ((0 : Nat) : Int)))]), (.int .i64 0)]) w28 ?_
      refine Rv (.agg #[(.int .i64 2), (.int .i64 0), (.int .i64 0), (.int .i64 0), (.int .i64 1), (.int .i64 (((b1 ++ c).length : Int) + ((0 : Nat) : Int) + ((0 : Nat) : Int)))]) w28 ?_
      refine Rv (.int .i64 0) w28 ?_
      refine S_alloc #[(.int .i64 0), (.int .i64 0), (.int .i64 0), (.int .i64 0), (.int .i64 0), (.int .i64 0)] (by kernel_rfl) rfl rfl rfl rfl fun b8 w29 n6 => ?_
      replace H := H.new n6
      refine S_store (H.blk 0) rfl rfl rfl rfl rfl (by kernel_rfl) rfl (Nat.le_of_ble_eq_true rfl) #[(.int .i64 2), (.int .i64 0), (.int .i64 0), (.int .i64 0), (.int .i64 1), (.int .i64 (((b1 ++ c).length : Int) + ((0 : Nat) : Int) + ((0 : Nat) : Int)))] rfl fun w30 u7 => ?_
      replace H := H.upd 0 u7
      refine Rv (.int .i64 0) w30 ?_
      refine wpR_nil ?_
      refine E_then_normal ?_
      refine C_seq ?_
      refine Cs [(19, (.int .i64 0)), (18, (ptr b8 0)), (17, (.int .i64 0)), (16, (.int .i64 0)), (15, v2), (14, (.int .i64 0)), (13, (ptr b7 0)), (12, (.int .i64 0)), (11, (.int .i64 0)), (10, (ptr b6 0)), (9, (.int .i64 0)), (8, (.int .i64 0)), (7, (.int .i64 2)), (36, (.bool (decide ((c.length : Int) > 300)))), (0, (.slice sa1 sn1 sk1)), (31, (.bool (decide ((b.length : Int) > 300)))), (28, (.bool false)), (6, (ptr u1 0)), (5, (.bool true)), (4, (.bool false)), (1, v902)] ?_
      refine C_region ?_
      refine Rv (.int .i64 0) w30 ?_
      refine Rv (.bool true) w30 ?_
      refine Rv (.bool true) w30 ?_
      refine Rv (.int .i64 0) w30 ?_
      refine Rv (.bool true) w30 ?_
      refine Rv (.bool true) w30 ?_
      refine Rv (.bool true) w30 ?_
      refine Rv (.int .i64 0) w30 ?_
      refine Rv (.bool true) w30 ?_
      refine Rv (.bool true) w30 ?_
      refine Rv (.bool true) w30 ?_
      refine Rv (.int .i64 0) w30 ?_
      refine Rv (.bool true) w30 ?_
      refine Rv (.bool true) w30 ?_
      refine Rv (.bool true) w30 ?_
      refine Rv (.int .i64 0) w30 ?_
      refine Rv (.bool true) w30 ?_
      refine Rv (.bool true) w30 ?_
      refine Rv (.bool true) w30 ?_
      refine Rv (.int .i64 0) w30 ?_
      refine Rv (.bool true) w30 ?_
      refine Rv (.bool true) w30 ?_
      refine Rv (.bool true) w30 ?_
      refine Rv (ptr b6 2) w30 ?_
      refine S_load (run_load_one (H.blk 3) Try.underlying3 rfl rfl) rfl rfl rfl rfl rfl ?_
      refine Rv (.int .i64 2) w30 ?_
      refine Rv (.bool true) w30 ?_
      refine Rv (.bool true) w30 ?_
      refine Rv (.bool true) w30 ?_
      refine Rv v2 w30 ?_
      refine Rw (.string (bstr (b1 ++ c))) w30 (X_convert_str ((hx4.mono m10).mono H.m) rfl rfl Try.underlying25 Try.underlying5 Try.underlying9) ?_
      refine Rv (.slice sa1 sn1 sk1) w30 ?_
      refine Rw (.string (bstr b1)) w30 (X_convert_str ((hx1.mono ((((m6.trans m7).trans m8).trans m9).trans m10)).mono H.m) rfl rfl Try.underlying25 Try.underlying5 Try.underlying9) ?_
      refine Rv v902 w30 ?_
      refine Rw (.string (bstr c)) w30 (X_convert_str ((h_c.mono ((((m6.trans m7).trans m8).trans m9).trans m10)).mono H.m) rfl rfl Try.underlying25 Try.underlying5 Try.underlying9) ?_
      refine Rw (.string ((bstr b1) ++ (bstr c))) w30 (X_add_str (by first | decide | omega | (simp only [bstr_size]; omega) | (simp; omega)) rfl rfl rfl) ?_
      refine Rv (.bool ((bstr (b1 ++ c)).toList == ((bstr b1) ++ (bstr c)).toList)) w30 ?_
      refine Rv (.bool ((bstr (b1 ++ c)).toList == ((bstr b1) ++ (bstr c)).toList)) w30 ?_
      rcases Bool.eq_false_or_eq_true ((bstr (b1 ++ c)).toList == ((bstr b1) ++ (bstr c)).toList) with c4 | c4
      · refine Rw (.bool true) w30 (eq_bool (by kernel_rfl) c4) ?_
        refine Rv (.int .i64 0) w30 ?_
        refine Rv (.bool true) w30 ?_
        refine Rv (.bool true) w30 ?_
        refine Rv (.bool true) w30 ?_
        refine Rv (.int .i64 0) w30 ?_
        refine Rv (.bool true) w30 ?_
        refine Rv (.bool true) w30 ?_
        refine Rv (.bool true) w30 ?_
        refine Rv (ptr b8 4) w30 ?_
        refine S_load (run_load_one (H.blk 0) Try.underlying3 rfl rfl) rfl rfl rfl rfl rfl ?_
        refine Rv (.bool true) w30 ?_
        refine Rv (.bool true) w30 ?_
        refine Rv (.bool true) w30 ?_
        refine Rv (ptr b8 5) w30 ?_
        refine S_load (run_load_one (H.blk 0) Try.underlying3 rfl rfl) rfl rfl rfl rfl rfl ?_
        refine Rv (.slice sa1 sn1 sk1) w30 ?_
        refine Rw (.int .i64 (b1.length : Int)) w30 (X_len ((hx1.mono ((((m6.trans m7).trans m8).trans m9).trans m10)).mono H.m) rfl Try.underlying25 rfl) ?_
        refine Rv v902 w30 ?_
        refine Rw (.int .i64 (c.length : Int)) w30 (X_len ((h_c.mono ((((m6.trans m7).trans m8).trans m9).trans m10)).mono H.m) rfl Try.underlying25 rfl) ?_
        refine Rw (.int .i64 ((b1.length : Int) + (c.length : Int))) w30 (eq_int (by kernel_rfl) (wrap64_in (by first | decide | omega | (simp only [bstr_size]; omega) | (simp; omega)) (by first | decide | omega | (simp only [bstr_size]; omega) | (simp; omega)))) ?_
        refine Rv (.bool ((((b1 ++ c).length : Int) + ((0 : Nat) : Int) + ((0 : Nat) : Int)) == ((b1.length : Int) + (c.length : Int)))) w30 ?_
        refine Rv (.bool ((((b1 ++ c).length : Int) + ((0 : Nat) : Int) + ((0 : Nat) : Int)) == ((b1.length : Int) + (c.length : Int)))) w30 ?_
        refine Rv (.bool ((((b1 ++ c).length : Int) + ((0 : Nat) : Int) + ((0 : Nat) : Int)) == ((b1.length : Int) + (c.length : Int)))) w30 ?_
        refine wpR_nil ?_
        refine E_then_normal ?_
        refine C_ret ?_
        refine E_ret (res_one rfl rfl) ⟨_, rfl, ?_⟩
        exact ⟨congrArg Value.bool (by first | exact bstr_app_eq _ _ | (simp; done) | (simp; omega) | (simp_all; done) | (simp_all; omega)), H.toLe⟩
      · refine Rw (.bool false) w30 (eq_bool (by kernel_rfl) c4) ?_
        iterate 2 refine Rs ?_
        refine Rv (.bool false) w30 ?_
        refine Rv (.bool false) w30 ?_
        iterate 2 refine Rs ?_
        refine Rv (.bool false) w30 ?_
        refine Rv (.bool false) w30 ?_
        iterate 3 refine Rs ?_
        refine Rv (.bool false) w30 ?_
        refine Rv (.bool false) w30 ?_
        iterate 8 refine Rs ?_
        refine Rv (.bool false) w30 ?_
        refine Rv (.bool false) w30 ?_
        refine wpR_nil ?_
        refine E_then_normal ?_
        refine C_ret ?_
        refine E_ret (res_one rfl rfl) ⟨_, rfl, ?_⟩
        exact absurd ((by first | exact bstr_app_eq _ _ | (simp; done) | (simp; omega) | (simp_all; done) | (simp_all; omega) : ((bstr (b1 ++ c)).toList == ((bstr b1) ++ (bstr c)).toList) = true).symm.trans c4) (by decide)
  · have d1 : ¬ (b.length : Int) > 300 := of_decide_eq_false c1
    refine C_skip ?_
    refine E_then_normal ?_
    refine C_seq ?_
    refine C_seq ?_
    refine Cs [(31, (.bool (decide ((b.length : Int) > 300)))), (28, (.bool false)), (6, (ptr u1 0)), (5, (.bool true)), (4, (.bool false)), (0, v901), (1, v902)] ?_
    refine C_region ?_
    refine Rv v902 w2 ?_
    refine Rw (.int .i64 (c.length : Int)) w2 (X_len (h_c.mono H.m) rfl Try.underlying25 rfl) ?_
    refine Rv (.bool (decide ((c.length : Int) > 300))) w2 ?_
    refine wpR_nil ?_
    refine E_then_normal ?_
    refine C_cond rfl (fun c5 => ?_) (fun c5 => ?_)
    · have d5 : (c.length : Int) > 300 := of_decide_eq_true c5
      refine Cs [(36, (.bool (decide ((c.length : Int) > 300)))), (31, (.bool (decide ((b.length : Int) > 300)))), (28, (.bool false)), (6, (ptr u1 0)), (5, (.bool true)), (4, (.bool false)), (0, v901), (1, v902)] ?_
      refine C_region ?_
      refine Rv v902 w2 ?_
      refine Rw (sliceV 1 v902 0 300) w2 (X_slice (l := 0) (h := 300) (h_c.mono H.m) (by first | decide | omega | (simp only [bstr_size]; omega) | (simp; omega)) (by first | decide | omega | (simp only [bstr_size]; omega) | (simp; omega)) (by first | decide | omega | (simp only [bstr_size]; omega) | (simp; omega)) rfl Try.underlying25 (by kernel_rfl) rfl (.inl ⟨rfl, rfl⟩) (.inr ⟨_, rfl, rfl⟩)) ?_
      have hx5 : Is g (sliceV 1 v902 0 300) ((c.drop (0 : Int).toNat).take ((300 : Int).toNat - (0 : Int).toNat) : List UInt8) := (Is.slice (l := 0) (h := 300) h_c (by first | decide | omega | (simp only [bstr_size]; omega) | (simp; omega)) (by first | decide | omega | (simp only [bstr_size]; omega) | (simp; omega)) (by first | decide | omega | (simp only [bstr_size]; omega) | (simp; omega)))
      obtain ⟨sa3, sn3, sk3, se3⟩ := slice_form hx5
      rw [se3] at hx5
      rw [se3]
      obtain ⟨b9, hx5, lb3⟩ : ∃ b1 : List UInt8, Is g (.slice sa3 sn3 sk3) b1 ∧ b1.length ≤ 300 := ⟨_, hx5, by simp only [List.length_take, List.length_drop]; omega⟩
      refine Rv (.slice sa3 sn3 sk3) w2 ?_
      refine wpR_nil ?_
      refine E_then_normal ?_
      refine C_seq ?_
      refine Cs [(1, (.slice sa3 sn3 sk3)), (36, (.bool (decide ((c.length : Int) > 300)))), (31, (.bool (decide ((b.length : Int) > 300)))), (28, (.bool false)), (6, (ptr u1 0)), (5, (.bool true)), (4, (.bool false)), (0, v901)] ?_
      refine C_region ?_
      refine Rv (ptr u1 0) w2 ?_
      refine Rv v901 w2 ?_
      obtain ⟨sa4, sn4, sk4, se4⟩ := slice_form h_b
      subst se4
      refine Rv (.agg #[(.slice none 0 0), (.int .i64 0), (.int .i64 2), (.int .i64 0), (.int .i64 0), (.int .i64 0), (.slice sa4 sn4 sk4), (.string (⟨#[]⟩)), (.slice none 0 0), (.bool false)]) w2 ?_
      refine Rc #[(ptr u1 0), (.int .i64 1), (.string (⟨#[97]⟩ : ByteArray)), (.agg #[(.slice none 0 0), (.int .i64 0), (.int .i64 2), (.int .i64 0), (.int .i64 0), (.int .i64 0), (.slice sa4 sn4 sk4), (.string (⟨#[]⟩)), (.slice none 0 0), (.bool false)])] w2 (make_S u1 0 0 2 ([(1, rootU [])]) 1 (⟨#[97]⟩ : ByteArray) (.slice none 0 0) 0 2 0 0 0 (.slice sa4 sn4 sk4) b (⟨#[]⟩) (.slice none 0 0) [] false _ _ _ _ H 0 2 3 ([(2, fileN b 1), (1, rootU [(⟨#[97]⟩, 2)])]) (mk1 _ _ (by rw [validN_list]; rfl) (by omega)) (mk1U _ _ (by rw [validN_list]; rfl) (by omega)) rfl rfl (by decide) (by first | decide | omega | (simp only [bstr_size]; omega) | (simp; omega)) h_b (is_nil _) (by first | decide | omega | (simp only [bstr_size]; omega) | (simp; omega)) rfl (by decide) (by decide) (by decide) (ofGet rfl (by decide))) ?_
      rintro _ w31 ⟨g11, m11, Hn, rfl⟩
      replace H := Hn
      clear Hn
      refine Rv (.tuple #[(.int .i64 2), (.int .i64 0)]) w31 ?_
      refine Rv (.int .i64 2) w31 ?_
      refine Rv (.int .i64 0) w31 ?_
      refine Rv (.int .i64 2) w31 ?_
      refine Rv (.int .i64 0) w31 ?_
      refine wpR_nil ?_
      refine E_then_normal ?_
      refine C_seq ?_
      refine Cs [(8, (.int .i64 0)), (7, (.int .i64 2)), (1, (.slice sa3 sn3 sk3)), (36, (.bool (decide ((c.length : Int) > 300)))), (31, (.bool (decide ((b.length : Int) > 300)))), (28, (.bool false)), (6, (ptr u1 0)), (5, (.bool true)), (4, (.bool false)), (0, (.slice sa4 sn4 sk4))] ?_
      refine C_region ?_
      refine Rv (ptr u1 0) w31 ?_
      refine Rv (.int .i64 2) w31 ?_
      refine Rc #[(ptr u1 0), (.int .i64 1), (.string (⟨#[98]⟩ : ByteArray)), (.int .i64 2)] w31 (link_S u1 0 0 3 ([(2, fileN b 1), (1, rootU [(⟨#[97]⟩, 2)])]) 1 (⟨#[98]⟩ : ByteArray) 2 _ _ _ _ H 0 ([(2, fileN b 2), (1, rootU [(⟨#[98]⟩, 2), (⟨#[97]⟩, 2)])]) (lk1 _ _ _ (by rw [validN_list]; rfl) (by decide)) (lk1U _ _ _ (by rw [validN_list]; rfl) (by decide)) (by decide) (by first | decide | omega | (simp only [bstr_size]; omega) | (simp; omega)) (by decide) (ofGet rfl (by first | decide | (simp [fileN]; done) | (simp [fileN]; omega))) (ofGet rfl (by decide))) ?_
      rintro _ w32 ⟨g12, m12, Hn, rfl⟩
      replace H := Hn
      clear Hn
      refine Rv (.int .i64 0) w32 ?_
      refine wpR_nil ?_
      refine E_then_normal ?_
      refine C_seq ?_
      refine Cs [(9, (.int .i64 0)), (8, (.int .i64 0)), (7, (.int .i64 2)), (1, (.slice sa3 sn3 sk3)), (36, (.bool (decide ((c.length : Int) > 300)))), (31, (.bool (decide ((b.length : Int) > 300)))), (28, (.bool false)), (6, (ptr u1 0)), (5, (.bool true)), (4, (.bool false)), (0, (.slice sa4 sn4 sk4))] ?_
      refine C_region ?_
      refine Rv (ptr u1 0) w32 ?_
      refine Rc #[(ptr u1 0), (.int .i64 1), (.string (⟨#[98]⟩ : ByteArray))] w32 (look_S u1 0 0 3 ([(2, fileN b 2), (1, rootU [(⟨#[98]⟩, 2), (⟨#[97]⟩, 2)])]) 1 (⟨#[98]⟩ : ByteArray) (rootU [(⟨#[98]⟩, 2), (⟨#[97]⟩, 2)]) (fileN b 2) 2 _ _ _ _ H rfl rfl rfl rfl (by decide) (by decide) (by first | decide | omega | (simp only [bstr_size]; omega) | (simp; omega))) ?_
      rintro _ w33 ⟨rfl, l10⟩
      replace H := H.le l10
      refine Rv (.tuple #[(.agg #[(.string (⟨#[98]⟩ : ByteArray)), (.int .i64 2), (.int .i64 2)]), (.int .i64 0)]) w33 ?_
      refine Rv (.agg #[(.string (⟨#[98]⟩ : ByteArray)), (.int .i64 2), (.int .i64 2)]) w33 ?_
      refine Rv (.int .i64 0) w33 ?_
      refine S_alloc #[(.string (⟨#[]⟩)), (.int .i64 0), (.int .i64 0)] (by kernel_rfl) rfl rfl rfl rfl fun b10 w34 n7 => ?_
      replace H := H.new n7
      refine S_store (H.blk 0) rfl rfl rfl rfl rfl (by kernel_rfl) rfl (Nat.le_of_ble_eq_true rfl) #[(.string (⟨#[98]⟩ : ByteArray)), (.int .i64 2), (.int .i64 2)] rfl fun w35 u8 => ?_
      replace H := H.upd 0 u8
      refine Rv (.int .i64 0) w35 ?_
      refine wpR_nil ?_
      refine E_then_normal ?_
      refine C_seq ?_
      refine Cs [(11, (.int .i64 0)), (10, (ptr b10 0)), (9, (.int .i64 0)), (8, (.int .i64 0)), (7, (.int .i64 2)), (1, (.slice sa3 sn3 sk3)), (36, (.bool (decide ((c.length : Int) > 300)))), (31, (.bool (decide ((b.length : Int) > 300)))), (28, (.bool false)), (6, (ptr u1 0)), (5, (.bool true)), (4, (.bool false)), (0, (.slice sa4 sn4 sk4))] ?_
      refine C_region ?_
      refine Rv (ptr u1 0) w35 ?_
      refine Rv (ptr b10 2) w35 ?_
      refine S_load (run_load_one (H.blk 0) Try.underlying3 rfl rfl) rfl rfl rfl rfl rfl ?_
      refine Rv (.slice sa4 sn4 sk4) w35 ?_
      refine Rw (.int .i64 (b.length : Int)) w35 (X_len ((h_b.mono (m11.trans m12)).mono H.m) rfl Try.underlying25 rfl) ?_
      refine Rv (.slice sa3 sn3 sk3) w35 ?_
      replace H := H.pick 1
      refine Rc #[(ptr u1 0), (.int .i64 2), (.int .i64 (b.length : Int)), (.slice sa3 sn3 sk3)] w35 (write_S u1 0 0 3 ([(2, fileN b 2), (1, rootU [(⟨#[98]⟩, 2), (⟨#[97]⟩, 2)])]) 2 (b.length : Int) b9 (.slice sa3 sn3 sk3) _ _ _ _ H 0 ([(2, fileN (b ++ b9) 2), (1, rootU [(⟨#[98]⟩, 2), (⟨#[97]⟩, 2)])]) (wrEnd _ _ _ _ _ rfl (by omega)) (wrEndU _ _ _ _ _ rfl (by omega)) (hx5.mono (m11.trans m12)) (by decide) (ofGet rfl (by show b.length ≤ 1000000; omega))) ?_
      rintro _ w36 ⟨g13, m13, Hn, rfl⟩
      replace H := Hn
      clear Hn
      refine Rv (.int .i64 0) w36 ?_
      refine wpR_nil ?_
      refine E_then_normal ?_
      refine C_seq ?_
      refine Cs [(12, (.int .i64 0)), (11, (.int .i64 0)), (10, (ptr b10 0)), (9, (.int .i64 0)), (8, (.int .i64 0)), (7, (.int .i64 2)), (1, (.slice sa3 sn3 sk3)), (36, (.bool (decide ((c.length : Int) > 300)))), (31, (.bool (decide ((b.length : Int) > 300)))), (28, (.bool false)), (6, (ptr u1 0)), (5, (.bool true)), (4, (.bool false)), (0, (.slice sa4 sn4 sk4))] ?_
      refine C_region ?_
      refine Rv (ptr u1 0) w36 ?_
      refine Rc #[(ptr u1 0), (.int .i64 1), (.string (⟨#[97]⟩ : ByteArray))] w36 (look_S u1 0 0 3 ([(2, fileN (b ++ b9) 2), (1, rootU [(⟨#[98]⟩, 2), (⟨#[97]⟩, 2)])]) 1 (⟨#[97]⟩ : ByteArray) (rootU [(⟨#[98]⟩, 2), (⟨#[97]⟩, 2)]) (fileN (b ++ b9) 2) 2 _ _ _ _ H rfl rfl rfl rfl (by decide) (by decide) (by first | decide | omega | (simp only [bstr_size]; omega) | (simp; omega))) ?_
      rintro _ w37 ⟨rfl, l11⟩
      replace H := H.le l11
      refine Rv (.tuple #[(.agg #[(.string (⟨#[97]⟩ : ByteArray)), (.int .i64 2), (.int .i64 2)]), (.int .i64 0)]) w37 ?_
      refine Rv (.agg #[(.string (⟨#[97]⟩ : ByteArray)), (.int .i64 2), (.int .i64 2)]) w37 ?_
      refine Rv (.int .i64 0) w37 ?_
      refine S_alloc #[(.string (⟨#[]⟩)), (.int .i64 0), (.int .i64 0)] (by kernel_rfl) rfl rfl rfl rfl fun b11 w38 n8 => ?_
      replace H := H.new n8
      refine S_store (H.blk 0) rfl rfl rfl rfl rfl (by kernel_rfl) rfl (Nat.le_of_ble_eq_true rfl) #[(.string (⟨#[97]⟩ : ByteArray)), (.int .i64 2), (.int .i64 2)] rfl fun w39 u9 => ?_
      replace H := H.upd 0 u9
      refine Rv (.int .i64 0) w39 ?_
      refine wpR_nil ?_
      refine E_then_normal ?_
      refine C_seq ?_
      refine Cs [(14, (.int .i64 0)), (13, (ptr b11 0)), (12, (.int .i64 0)), (11, (.int .i64 0)), (10, (ptr b10 0)), (9, (.int .i64 0)), (8, (.int .i64 0)), (7, (.int .i64 2)), (1, (.slice sa3 sn3 sk3)), (36, (.bool (decide ((c.length : Int) > 300)))), (31, (.bool (decide ((b.length : Int) > 300)))), (28, (.bool false)), (6, (ptr u1 0)), (5, (.bool true)), (4, (.bool false)), (0, (.slice sa4 sn4 sk4))] ?_
      refine C_region ?_
      refine Rv (ptr u1 0) w39 ?_
      refine Rv (ptr b11 2) w39 ?_
      refine S_load (run_load_one (H.blk 0) Try.underlying3 rfl rfl) rfl rfl rfl rfl rfl ?_
      refine Rc #[(ptr u1 0), (.int .i64 2), (.int .i64 0), (.int .i64 4096)] w39 (read_S u1 0 0 3 ([(2, fileN (b ++ b9) 2), (1, rootU [(⟨#[98]⟩, 2), (⟨#[97]⟩, 2)])]) 2 0 4096 _ _ _ _ (H.pick 1) 0 (b ++ b9) (rd1 _ _ _) (rd1U _ _ _ (by rw [List.length_append]; omega)) (by decide) (by decide)) ?_
      rintro _ w40 ⟨v3, rfl, hx6, l12⟩
      obtain ⟨g14, hg3, m14, H⟩ := H.data l12
      rw [hg3] at hx6
      have ln_hx6 := hx6.len_le
      refine Rv (.tuple #[v3, (.int .i64 0)]) w40 ?_
      refine Rv v3 w40 ?_
      refine Rv (.int .i64 0) w40 ?_
      refine Rv v3 w40 ?_
      refine Rv (.int .i64 0) w40 ?_
      refine wpR_nil ?_
      refine E_then_normal ?_
      refine C_seq ?_
      refine Cs [(16, (.int .i64 0)), (15, v3), (14, (.int .i64 0)), (13, (ptr b11 0)), (12, (.int .i64 0)), (11, (.int .i64 0)), (10, (ptr b10 0)), (9, (.int .i64 0)), (8, (.int .i64 0)), (7, (.int .i64 2)), (1, (.slice sa3 sn3 sk3)), (36, (.bool (decide ((c.length : Int) > 300)))), (31, (.bool (decide ((b.length : Int) > 300)))), (28, (.bool false)), (6, (ptr u1 0)), (5, (.bool true)), (4, (.bool false)), (0, (.slice sa4 sn4 sk4))] ?_
      refine C_region ?_
      refine Rv (ptr u1 0) w40 ?_
      replace H := H.pick 1
      refine Rc #[(ptr u1 0), (.int .i64 1), (.string (⟨#[97]⟩ : ByteArray))] w40 (remove_S u1 0 0 3 ([(2, fileN (b ++ b9) 2), (1, rootU [(⟨#[98]⟩, 2), (⟨#[97]⟩, 2)])]) 1 (⟨#[97]⟩ : ByteArray) _ _ _ _ H 0 ([(2, fileN (b ++ b9) 1), (1, rootU [(⟨#[98]⟩, 2)])]) (rm1 _ _ _ (by decide)) (rm1S _ _ _ (by decide)) (by decide) (by first | decide | omega | (simp only [bstr_size]; omega) | (simp; omega)) (ofGet2 rfl rfl rfl rfl (by first | decide | (simp [fileN]; done) | (simp [fileN]; omega)) (by first | decide | (simp [fileN]; done) | (simp [fileN]; omega)) (by decide))) ?_
      rintro _ w41 ⟨g15, m15, Hn, rfl⟩
      replace H := Hn
      clear Hn
      refine Rv (.int .i64 0) w41 ?_
      refine wpR_nil ?_
      refine E_then_normal ?_
      refine C_seq ?_
      refine Cs [(17, (.int .i64 0)), (16, (.int .i64 0)), (15, v3), (14, (.int .i64 0)), (13, (ptr b11 0)), (12, (.int .i64 0)), (11, (.int .i64 0)), (10, (ptr b10 0)), (9, (.int .i64 0)), (8, (.int .i64 0)), (7, (.int .i64 2)), (1, (.slice sa3 sn3 sk3)), (36, (.bool (decide ((c.length : Int) > 300)))), (31, (.bool (decide ((b.length : Int) > 300)))), (28, (.bool false)), (6, (ptr u1 0)), (5, (.bool true)), (4, (.bool false)), (0, (.slice sa4 sn4 sk4))] ?_
      refine C_region ?_
      refine Rv (ptr u1 0) w41 ?_
      refine Rv (.int .i64 2) w41 ?_
      refine Rc #[(ptr u1 0), (.int .i64 2)] w41 (stat_S u1 0 0 3 ([(2, fileN (b ++ b9) 1), (1, rootU [(⟨#[98]⟩, 2)])]) 2 (fileN (b ++ b9) 1) _ _ _ _ H rfl (by show (b ++ b9).length + 0 + 0 ≤ _; rw [List.length_append]; omega) (by decide)) ?_
      rintro _ w42 ⟨rfl, l13⟩
      replace H := H.le l13
      refine Rv (.tuple #[(.agg #[(.int .i64 2), (.int .i64 0), (.int .i64 0), (.int .i64 0), (.int .i64 1), (.int .i64 (((b ++ b9).length : Int) + ((0 : Nat) : Int) + ((0 : Nat) : Int)))]), (.int .i64 0)]) w42 ?_
      refine Rv (.agg #[(.int .i64 2), (.int .i64 0), (.int .i64 0), (.int .i64 0), (.int .i64 1), (.int .i64 (((b ++ b9).length : Int) + ((0 : Nat) : Int) + ((0 : Nat) : Int)))]) w42 ?_
      refine Rv (.int .i64 0) w42 ?_
      refine S_alloc #[(.int .i64 0), (.int .i64 0), (.int .i64 0), (.int .i64 0), (.int .i64 0), (.int .i64 0)] (by kernel_rfl) rfl rfl rfl rfl fun b12 w43 n9 => ?_
      replace H := H.new n9
      refine S_store (H.blk 0) rfl rfl rfl rfl rfl (by kernel_rfl) rfl (Nat.le_of_ble_eq_true rfl) #[(.int .i64 2), (.int .i64 0), (.int .i64 0), (.int .i64 0), (.int .i64 1), (.int .i64 (((b ++ b9).length : Int) + ((0 : Nat) : Int) + ((0 : Nat) : Int)))] rfl fun w44 u10 => ?_
      replace H := H.upd 0 u10
      refine Rv (.int .i64 0) w44 ?_
      refine wpR_nil ?_
      refine E_then_normal ?_
      refine C_seq ?_
      refine Cs [(19, (.int .i64 0)), (18, (ptr b12 0)), (17, (.int .i64 0)), (16, (.int .i64 0)), (15, v3), (14, (.int .i64 0)), (13, (ptr b11 0)), (12, (.int .i64 0)), (11, (.int .i64 0)), (10, (ptr b10 0)), (9, (.int .i64 0)), (8, (.int .i64 0)), (7, (.int .i64 2)), (1, (.slice sa3 sn3 sk3)), (36, (.bool (decide ((c.length : Int) > 300)))), (31, (.bool (decide ((b.length : Int) > 300)))), (28, (.bool false)), (6, (ptr u1 0)), (5, (.bool true)), (4, (.bool false)), (0, (.slice sa4 sn4 sk4))] ?_
      refine C_region ?_
      refine Rv (.int .i64 0) w44 ?_
      refine Rv (.bool true) w44 ?_
      refine Rv (.bool true) w44 ?_
      refine Rv (.int .i64 0) w44 ?_
      refine Rv (.bool true) w44 ?_
      refine Rv (.bool true) w44 ?_
      refine Rv (.bool true) w44 ?_
      refine Rv (.int .i64 0) w44 ?_
      refine Rv (.bool true) w44 ?_
      refine Rv (.bool true) w44 ?_
      refine Rv (.bool true) w44 ?_
      refine Rv (.int .i64 0) w44 ?_
      refine Rv (.bool true) w44 ?_
      refine Rv (.bool true) w44 ?_
      refine Rv (.bool true) w44 ?_
      refine Rv (.int .i64 0) w44 ?_
      refine Rv (.bool true) w44 ?_
      refine Rv (.bool true) w44 ?_
      refine Rv (.bool true) w44 ?_
      refine Rv (.int .i64 0) w44 ?_
      refine Rv (.bool true) w44 ?_
      refine Rv (.bool true) w44 ?_
      refine Rv (.bool true) w44 ?_
      refine Rv (ptr b10 2) w44 ?_
      refine S_load (run_load_one (H.blk 3) Try.underlying3 rfl rfl) rfl rfl rfl rfl rfl ?_
      refine Rv (.int .i64 2) w44 ?_
      refine Rv (.bool true) w44 ?_
      refine Rv (.bool true) w44 ?_
      refine Rv (.bool true) w44 ?_
      refine Rv v3 w44 ?_
      refine Rw (.string (bstr (b ++ b9))) w44 (X_convert_str ((hx6.mono m15).mono H.m) rfl rfl Try.underlying25 Try.underlying5 Try.underlying9) ?_
      refine Rv (.slice sa4 sn4 sk4) w44 ?_
      refine Rw (.string (bstr b)) w44 (X_convert_str ((h_b.mono ((((m11.trans m12).trans m13).trans m14).trans m15)).mono H.m) rfl rfl Try.underlying25 Try.underlying5 Try.underlying9) ?_
      refine Rv (.slice sa3 sn3 sk3) w44 ?_
      refine Rw (.string (bstr b9)) w44 (X_convert_str ((hx5.mono ((((m11.trans m12).trans m13).trans m14).trans m15)).mono H.m) rfl rfl Try.underlying25 Try.underlying5 Try.underlying9) ?_
      refine Rw (.string ((bstr b) ++ (bstr b9))) w44 (X_add_str (by first | decide | omega | (simp only [bstr_size]; omega) | (simp; omega)) rfl rfl rfl) ?_
      refine Rv (.bool ((bstr (b ++ b9)).toList == ((bstr b) ++ (bstr b9)).toList)) w44 ?_
      refine Rv (.bool ((bstr (b ++ b9)).toList == ((bstr b) ++ (bstr b9)).toList)) w44 ?_
      rcases Bool.eq_false_or_eq_true ((bstr (b ++ b9)).toList == ((bstr b) ++ (bstr b9)).toList) with c6 | c6
      · refine Rw (.bool true) w44 (eq_bool (by kernel_rfl) c6) ?_
        refine Rv (.int .i64 0) w44 ?_
        refine Rv (.bool true) w44 ?_
        refine Rv (.bool true) w44 ?_
        refine Rv (.bool true) w44 ?_
        refine Rv (.int .i64 0) w44 ?_
        refine Rv (.bool true) w44 ?_
        refine Rv (.bool true) w44 ?_
        refine Rv (.bool true) w44 ?_
        refine Rv (ptr b12 4) w44 ?_
        refine S_load (run_load_one (H.blk 0) Try.underlying3 rfl rfl) rfl rfl rfl rfl rfl ?_
        refine Rv (.bool true) w44 ?_
        refine Rv (.bool true) w44 ?_
        refine Rv (.bool true) w44 ?_
        refine Rv (ptr b12 5) w44 ?_
        refine S_load (run_load_one (H.blk 0) Try.underlying3 rfl rfl) rfl rfl rfl rfl rfl ?_
        refine Rv (.slice sa4 sn4 sk4) w44 ?_
        refine Rw (.int .i64 (b.length : Int)) w44 (X_len ((h_b.mono ((((m11.trans m12).trans m13).trans m14).trans m15)).mono H.m) rfl Try.underlying25 rfl) ?_
        refine Rv (.slice sa3 sn3 sk3) w44 ?_
        refine Rw (.int .i64 (b9.length : Int)) w44 (X_len ((hx5.mono ((((m11.trans m12).trans m13).trans m14).trans m15)).mono H.m) rfl Try.underlying25 rfl) ?_
        refine Rw (.int .i64 ((b.length : Int) + (b9.length : Int))) w44 (eq_int (by kernel_rfl) (wrap64_in (by first | decide | omega | (simp only [bstr_size]; omega) | (simp; omega)) (by first | decide | omega | (simp only [bstr_size]; omega) | (simp; omega)))) ?_
        refine Rv (.bool ((((b ++ b9).length : Int) + ((0 : Nat) : Int) + ((0 : Nat) : Int)) == ((b.length : Int) + (b9.length : Int)))) w44 ?_
        refine Rv (.bool ((((b ++ b9).length : Int) + ((0 : Nat) : Int) + ((0 : Nat) : Int)) == ((b.length : Int) + (b9.length : Int)))) w44 ?_
        refine Rv (.bool ((((b ++ b9).length : Int) + ((0 : Nat) : Int) + ((0 : Nat) : Int)) == ((b.length : Int) + (b9.length : Int)))) w44 ?_
        refine wpR_nil ?_
        refine E_then_normal ?_
        refine C_ret ?_
        refine E_ret (res_one rfl rfl) ⟨_, rfl, ?_⟩
        exact ⟨congrArg Value.bool (by first | exact bstr_app_eq _ _ | (simp; done) | (simp; omega) | (simp_all; done) | (simp_all; omega)), H.toLe⟩
      · refine Rw (.bool false) w44 (eq_bool (by kernel_rfl) c6) ?_
        iterate 2 refine Rs ?_
        refine Rv (.bool false) w44 ?_
        refine Rv (.bool false) w44 ?_
        iterate 2 refine Rs ?_
        refine Rv (.bool false) w44 ?_
        refine Rv (.bool false) w44 ?_
        iterate 3 refine Rs ?_
        refine Rv (.bool false) w44 ?_
        refine Rv (.bool false) w44 ?_
        iterate 8 refine Rs ?_
        refine Rv (.bool false) w44 ?_
        refine Rv (.bool false) w44 ?_
        refine wpR_nil ?_
        refine E_then_normal ?_
        refine C_ret ?_
        refine E_ret (res_one rfl rfl) ⟨_, rfl, ?_⟩
        exact absurd ((by first | exact bstr_app_eq _ _ | (simp; done) | (simp; omega) | (simp_all; done) | (simp_all; omega) : ((bstr (b ++ b9)).toList == ((bstr b) ++ (bstr b9)).toList) = true).symm.trans c6) (by decide)
    · have d5 : ¬ (c.length : Int) > 300 := of_decide_eq_false c5
      refine C_skip ?_
      refine E_then_normal ?_
      refine C_seq ?_
      refine Cs [(36, (.bool (decide ((c.length : Int) > 300)))), (31, (.bool (decide ((b.length : Int) > 300)))), (28, (.bool false)), (6, (ptr u1 0)), (5, (.bool true)), (4, (.bool false)), (0, v901), (1, v902)] ?_
      refine C_region ?_
      refine Rv (ptr u1 0) w2 ?_
      refine Rv v901 w2 ?_
      obtain ⟨sa5, sn5, sk5, se5⟩ := slice_form h_b
      subst se5
      refine Rv (.agg #[(.slice none 0 0), (.int .i64 0), (.int .i64 2), (.int .i64 0), (.int .i64 0), (.int .i64 0), (.slice sa5 sn5 sk5), (.string (⟨#[]⟩)), (.slice none 0 0), (.bool false)]) w2 ?_
      refine Rc #[(ptr u1 0), (.int .i64 1), (.string (⟨#[97]⟩ : ByteArray)), (.agg #[(.slice none 0 0), (.int .i64 0), (.int .i64 2), (.int .i64 0), (.int .i64 0), (.int .i64 0), (.slice sa5 sn5 sk5), (.string (⟨#[]⟩)), (.slice none 0 0), (.bool false)])] w2 (make_S u1 0 0 2 ([(1, rootU [])]) 1 (⟨#[97]⟩ : ByteArray) (.slice none 0 0) 0 2 0 0 0 (.slice sa5 sn5 sk5) b (⟨#[]⟩) (.slice none 0 0) [] false _ _ _ _ H 0 2 3 ([(2, fileN b 1), (1, rootU [(⟨#[97]⟩, 2)])]) (mk1 _ _ (by rw [validN_list]; rfl) (by omega)) (mk1U _ _ (by rw [validN_list]; rfl) (by omega)) rfl rfl (by decide) (by first | decide | omega | (simp only [bstr_size]; omega) | (simp; omega)) h_b (is_nil _) (by first | decide | omega | (simp only [bstr_size]; omega) | (simp; omega)) rfl (by decide) (by decide) (by decide) (ofGet rfl (by decide))) ?_
      rintro _ w45 ⟨g16, m16, Hn, rfl⟩
      replace H := Hn
      clear Hn
      refine Rv (.tuple #[(.int .i64 2), (.int .i64 0)]) w45 ?_
      refine Rv (.int .i64 2) w45 ?_
      refine Rv (.int .i64 0) w45 ?_
      refine Rv (.int .i64 2) w45 ?_
      refine Rv (.int .i64 0) w45 ?_
      refine wpR_nil ?_
      refine E_then_normal ?_
      refine C_seq ?_
      refine Cs [(8, (.int .i64 0)), (7, (.int .i64 2)), (36, (.bool (decide ((c.length : Int) > 300)))), (31, (.bool (decide ((b.length : Int) > 300)))), (28, (.bool false)), (6, (ptr u1 0)), (5, (.bool true)), (4, (.bool false)), (0, (.slice sa5 sn5 sk5)), (1, v902)] ?_
      refine C_region ?_
      refine Rv (ptr u1 0) w45 ?_
      refine Rv (.int .i64 2) w45 ?_
      refine Rc #[(ptr u1 0), (.int .i64 1), (.string (⟨#[98]⟩ : ByteArray)), (.int .i64 2)] w45 (link_S u1 0 0 3 ([(2, fileN b 1), (1, rootU [(⟨#[97]⟩, 2)])]) 1 (⟨#[98]⟩ : ByteArray) 2 _ _ _ _ H 0 ([(2, fileN b 2), (1, rootU [(⟨#[98]⟩, 2), (⟨#[97]⟩, 2)])]) (lk1 _ _ _ (by rw [validN_list]; rfl) (by decide)) (lk1U _ _ _ (by rw [validN_list]; rfl) (by decide)) (by decide) (by first | decide | omega | (simp only [bstr_size]; omega) | (simp; omega)) (by decide) (ofGet rfl (by first | decide | (simp [fileN]; done) | (simp [fileN]; omega))) (ofGet rfl (by decide))) ?_
      rintro _ w46 ⟨g17, m17, Hn, rfl⟩
      replace H := Hn
      clear Hn
      refine Rv (.int .i64 0) w46 ?_
      refine wpR_nil ?_
      refine E_then_normal ?_
      refine C_seq ?_
      refine Cs [(9, (.int .i64 0)), (8, (.int .i64 0)), (7, (.int .i64 2)), (36, (.bool (decide ((c.length : Int) > 300)))), (31, (.bool (decide ((b.length : Int) > 300)))), (28, (.bool false)), (6, (ptr u1 0)), (5, (.bool true)), (4, (.bool false)), (0, (.slice sa5 sn5 sk5)), (1, v902)] ?_
      refine C_region ?_
      refine Rv (ptr u1 0) w46 ?_
      refine Rc #[(ptr u1 0), (.int .i64 1), (.string (⟨#[98]⟩ : ByteArray))] w46 (look_S u1 0 0 3 ([(2, fileN b 2), (1, rootU [(⟨#[98]⟩, 2), (⟨#[97]⟩, 2)])]) 1 (⟨#[98]⟩ : ByteArray) (rootU [(⟨#[98]⟩, 2), (⟨#[97]⟩, 2)]) (fileN b 2) 2 _ _ _ _ H rfl rfl rfl rfl (by decide) (by decide) (by first | decide | omega | (simp only [bstr_size]; omega) | (simp; omega))) ?_
      rintro _ w47 ⟨rfl, l14⟩
      replace H := H.le l14
      refine Rv (.tuple #[(.agg #[(.string (⟨#[98]⟩ : ByteArray)), (.int .i64 2), (.int .i64 2)]), (.int .i64 0)]) w47 ?_
      refine Rv (.agg #[(.string (⟨#[98]⟩ : ByteArray)), (.int .i64 2), (.int .i64 2)]) w47 ?_
      refine Rv (.int .i64 0) w47 ?_
      refine S_alloc #[(.string (⟨#[]⟩)), (.int .i64 0), (.int .i64 0)] (by kernel_rfl) rfl rfl rfl rfl fun b13 w48 n10 => ?_
      replace H := H.new n10
      refine S_store (H.blk 0) rfl rfl rfl rfl rfl (by kernel_rfl) rfl (Nat.le_of_ble_eq_true rfl) #[(.string (⟨#[98]⟩ : ByteArray)), (.int .i64 2), (.int .i64 2)] rfl fun w49 u11 => ?_
      replace H := H.upd 0 u11
      refine Rv (.int .i64 0) w49 ?_
      refine wpR_nil ?_
      refine E_then_normal ?_
      refine C_seq ?_
      refine Cs [(11, (.int .i64 0)), (10, (ptr b13 0)), (9, (.int .i64 0)), (8, (.int .i64 0)), (7, (.int .i64 2)), (36, (.bool (decide ((c.length : Int) > 300)))), (31, (.bool (decide ((b.length : Int) > 300)))), (28, (.bool false)), (6, (ptr u1 0)), (5, (.bool true)), (4, (.bool false)), (0, (.slice sa5 sn5 sk5)), (1, v902)] ?_
      refine C_region ?_
      refine Rv (ptr u1 0) w49 ?_
      refine Rv (ptr b13 2) w49 ?_
      refine S_load (run_load_one (H.blk 0) Try.underlying3 rfl rfl) rfl rfl rfl rfl rfl ?_
      refine Rv (.slice sa5 sn5 sk5) w49 ?_
      refine Rw (.int .i64 (b.length : Int)) w49 (X_len ((h_b.mono (m16.trans m17)).mono H.m) rfl Try.underlying25 rfl) ?_
      refine Rv v902 w49 ?_
      replace H := H.pick 1
      refine Rc #[(ptr u1 0), (.int .i64 2), (.int .i64 (b.length : Int)), v902] w49 (write_S u1 0 0 3 ([(2, fileN b 2), (1, rootU [(⟨#[98]⟩, 2), (⟨#[97]⟩, 2)])]) 2 (b.length : Int) c v902 _ _ _ _ H 0 ([(2, fileN (b ++ c) 2), (1, rootU [(⟨#[98]⟩, 2), (⟨#[97]⟩, 2)])]) (wrEnd _ _ _ _ _ rfl (by omega)) (wrEndU _ _ _ _ _ rfl (by omega)) (h_c.mono (m16.trans m17)) (by decide) (ofGet rfl (by show b.length ≤ 1000000; omega))) ?_
      rintro _ w50 ⟨g18, m18, Hn, rfl⟩
      replace H := Hn
      clear Hn
      refine Rv (.int .i64 0) w50 ?_
      refine wpR_nil ?_
      refine E_then_normal ?_
      refine C_seq ?_
      refine Cs [(12, (.int .i64 0)), (11, (.int .i64 0)), (10, (ptr b13 0)), (9, (.int .i64 0)), (8, (.int .i64 0)), (7, (.int .i64 2)), (36, (.bool (decide ((c.length : Int) > 300)))), (31, (.bool (decide ((b.length : Int) > 300)))), (28, (.bool false)), (6, (ptr u1 0)), (5, (.bool true)), (4, (.bool false)), (0, (.slice sa5 sn5 sk5)), (1, v902)] ?_
      refine C_region ?_
      refine Rv (ptr u1 0) w50 ?_
      refine Rc #[(ptr u1 0), (.int .i64 1), (.string (⟨#[97]⟩ : ByteArray))] w50 (look_S u1 0 0 3 ([(2, fileN (b ++ c) 2), (1, rootU [(⟨#[98]⟩, 2), (⟨#[97]⟩, 2)])]) 1 (⟨#[97]⟩ : ByteArray) (rootU [(⟨#[98]⟩, 2), (⟨#[97]⟩, 2)]) (fileN (b ++ c) 2) 2 _ _ _ _ H rfl rfl rfl rfl (by decide) (by decide) (by first | decide | omega | (simp only [bstr_size]; omega) | (simp; omega))) ?_
      rintro _ w51 ⟨rfl, l15⟩
      replace H := H.le l15
      refine Rv (.tuple #[(.agg #[(.string (⟨#[97]⟩ : ByteArray)), (.int .i64 2), (.int .i64 2)]), (.int .i64 0)]) w51 ?_
      refine Rv (.agg #[(.string (⟨#[97]⟩ : ByteArray)), (.int .i64 2), (.int .i64 2)]) w51 ?_
      refine Rv (.int .i64 0) w51 ?_
      refine S_alloc #[(.string (⟨#[]⟩)), (.int .i64 0), (.int .i64 0)] (by kernel_rfl) rfl rfl rfl rfl fun b14 w52 n11 => ?_
      replace H := H.new n11
      refine S_store (H.blk 0) rfl rfl rfl rfl rfl (by kernel_rfl) rfl (Nat.le_of_ble_eq_true rfl) #[(.string (⟨#[97]⟩ : ByteArray)), (.int .i64 2), (.int .i64 2)] rfl fun w53 u12 => ?_
      replace H := H.upd 0 u12
      refine Rv (.int .i64 0) w53 ?_
      refine wpR_nil ?_
      refine E_then_normal ?_
      refine C_seq ?_
      refine Cs [(14, (.int .i64 0)), (13, (ptr b14 0)), (12, (.int .i64 0)), (11, (.int .i64 0)), (10, (ptr b13 0)), (9, (.int .i64 0)), (8, (.int .i64 0)), (7, (.int .i64 2)), (36, (.bool (decide ((c.length : Int) > 300)))), (31, (.bool (decide ((b.length : Int) > 300)))), (28, (.bool false)), (6, (ptr u1 0)), (5, (.bool true)), (4, (.bool false)), (0, (.slice sa5 sn5 sk5)), (1, v902)] ?_
      refine C_region ?_
      refine Rv (ptr u1 0) w53 ?_
      refine Rv (ptr b14 2) w53 ?_
      refine S_load (run_load_one (H.blk 0) Try.underlying3 rfl rfl) rfl rfl rfl rfl rfl ?_
      refine Rc #[(ptr u1 0), (.int .i64 2), (.int .i64 0), (.int .i64 4096)] w53 (read_S u1 0 0 3 ([(2, fileN (b ++ c) 2), (1, rootU [(⟨#[98]⟩, 2), (⟨#[97]⟩, 2)])]) 2 0 4096 _ _ _ _ (H.pick 1) 0 (b ++ c) (rd1 _ _ _) (rd1U _ _ _ (by rw [List.length_append]; omega)) (by decide) (by decide)) ?_
      rintro _ w54 ⟨v4, rfl, hx7, l16⟩
      obtain ⟨g19, hg4, m19, H⟩ := H.data l16
      rw [hg4] at hx7
      have ln_hx7 := hx7.len_le
      refine Rv (.tuple #[v4, (.int .i64 0)]) w54 ?_
      refine Rv v4 w54 ?_
      refine Rv (.int .i64 0) w54 ?_
      refine Rv v4 w54 ?_
      refine Rv (.int .i64 0) w54 ?_
      refine wpR_nil ?_
      refine E_then_normal ?_
      refine C_seq ?_
      refine Cs [(16, (.int .i64 0)), (15, v4), (14, (.int .i64 0)), (13, (ptr b14 0)), (12, (.int .i64 0)), (11, (.int .i64 0)), (10, (ptr b13 0)), (9, (.int .i64 0)), (8, (.int .i64 0)), (7, (.int .i64 2)), (36, (.bool (decide ((c.length : Int) > 300)))), (31, (.bool (decide ((b.length : Int) > 300)))), (28, (.bool false)), (6, (ptr u1 0)), (5, (.bool true)), (4, (.bool false)), (0, (.slice sa5 sn5 sk5)), (1, v902)] ?_
      refine C_region ?_
      refine Rv (ptr u1 0) w54 ?_
      replace H := H.pick 1
      refine Rc #[(ptr u1 0), (.int .i64 1), (.string (⟨#[97]⟩ : ByteArray))] w54 (remove_S u1 0 0 3 ([(2, fileN (b ++ c) 2), (1, rootU [(⟨#[98]⟩, 2), (⟨#[97]⟩, 2)])]) 1 (⟨#[97]⟩ : ByteArray) _ _ _ _ H 0 ([(2, fileN (b ++ c) 1), (1, rootU [(⟨#[98]⟩, 2)])]) (rm1 _ _ _ (by decide)) (rm1S _ _ _ (by decide)) (by decide) (by first | decide | omega | (simp only [bstr_size]; omega) | (simp; omega)) (ofGet2 rfl rfl rfl rfl (by first | decide | (simp [fileN]; done) | (simp [fileN]; omega)) (by first | decide | (simp [fileN]; done) | (simp [fileN]; omega)) (by decide))) ?_
      rintro _ w55 ⟨g20, m20, Hn, rfl⟩
      replace H := Hn
      clear Hn
      refine Rv (.int .i64 0) w55 ?_
      refine wpR_nil ?_
      refine E_then_normal ?_
      refine C_seq ?_
      refine Cs [(17, (.int .i64 0)), (16, (.int .i64 0)), (15, v4), (14, (.int .i64 0)), (13, (ptr b14 0)), (12, (.int .i64 0)), (11, (.int .i64 0)), (10, (ptr b13 0)), (9, (.int .i64 0)), (8, (.int .i64 0)), (7, (.int .i64 2)), (36, (.bool (decide ((c.length : Int) > 300)))), (31, (.bool (decide ((b.length : Int) > 300)))), (28, (.bool false)), (6, (ptr u1 0)), (5, (.bool true)), (4, (.bool false)), (0, (.slice sa5 sn5 sk5)), (1, v902)] ?_
      refine C_region ?_
      refine Rv (ptr u1 0) w55 ?_
      refine Rv (.int .i64 2) w55 ?_
      refine Rc #[(ptr u1 0), (.int .i64 2)] w55 (stat_S u1 0 0 3 ([(2, fileN (b ++ c) 1), (1, rootU [(⟨#[98]⟩, 2)])]) 2 (fileN (b ++ c) 1) _ _ _ _ H rfl (by show (b ++ c).length + 0 + 0 ≤ _; rw [List.length_append]; omega) (by decide)) ?_
      rintro _ w56 ⟨rfl, l17⟩
      replace H := H.le l17
      refine Rv (.tuple #[(.agg #[(.int .i64 2), (.int .i64 0), (.int .i64 0), (.int .i64 0), (.int .i64 1), (.int .i64 (((b ++ c).length : Int) + ((0 : Nat) : Int) + ((0 : Nat) : Int)))]), (.int .i64 0)]) w56 ?_
      refine Rv (.agg #[(.int .i64 2), (.int .i64 0), (.int .i64 0), (.int .i64 0), (.int .i64 1), (.int .i64 (((b ++ c).length : Int) + ((0 : Nat) : Int) + ((0 : Nat) : Int)))]) w56 ?_
      refine Rv (.int .i64 0) w56 ?_
      refine S_alloc #[(.int .i64 0), (.int .i64 0), (.int .i64 0), (.int .i64 0), (.int .i64 0), (.int .i64 0)] (by kernel_rfl) rfl rfl rfl rfl fun b15 w57 n12 => ?_
      replace H := H.new n12
      refine S_store (H.blk 0) rfl rfl rfl rfl rfl (by kernel_rfl) rfl (Nat.le_of_ble_eq_true rfl) #[(.int .i64 2), (.int .i64 0), (.int .i64 0), (.int .i64 0), (.int .i64 1), (.int .i64 (((b ++ c).length : Int) + ((0 : Nat) : Int) + ((0 : Nat) : Int)))] rfl fun w58 u13 => ?_
      replace H := H.upd 0 u13
      refine Rv (.int .i64 0) w58 ?_
      refine wpR_nil ?_
      refine E_then_normal ?_
      refine C_seq ?_
      refine Cs [(19, (.int .i64 0)), (18, (ptr b15 0)), (17, (.int .i64 0)), (16, (.int .i64 0)), (15, v4), (14, (.int .i64 0)), (13, (ptr b14 0)), (12, (.int .i64 0)), (11, (.int .i64 0)), (10, (ptr b13 0)), (9, (.int .i64 0)), (8, (.int .i64 0)), (7, (.int .i64 2)), (36, (.bool (decide ((c.length : Int) > 300)))), (31, (.bool (decide ((b.length : Int) > 300)))), (28, (.bool false)), (6, (ptr u1 0)), (5, (.bool true)), (4, (.bool false)), (0, (.slice sa5 sn5 sk5)), (1, v902)] ?_
      refine C_region ?_
      refine Rv (.int .i64 0) w58 ?_
      refine Rv (.bool true) w58 ?_
      refine Rv (.bool true) w58 ?_
      refine Rv (.int .i64 0) w58 ?_
      refine Rv (.bool true) w58 ?_
      refine Rv (.bool true) w58 ?_
      refine Rv (.bool true) w58 ?_
      refine Rv (.int .i64 0) w58 ?_
      refine Rv (.bool true) w58 ?_
      refine Rv (.bool true) w58 ?_
      refine Rv (.bool true) w58 ?_
      refine Rv (.int .i64 0) w58 ?_
      refine Rv (.bool true) w58 ?_
      refine Rv (.bool true) w58 ?_
      refine Rv (.bool true) w58 ?_
      refine Rv (.int .i64 0) w58 ?_
      refine Rv (.bool true) w58 ?_
      refine Rv (.bool true) w58 ?_
      refine Rv (.bool true) w58 ?_
      refine Rv (.int .i64 0) w58 ?_
      refine Rv (.bool true) w58 ?_
      refine Rv (.bool true) w58 ?_
      refine Rv (.bool true) w58 ?_
      refine Rv (ptr b13 2) w58 ?_
      refine S_load (run_load_one (H.blk 3) Try.underlying3 rfl rfl) rfl rfl rfl rfl rfl ?_
      refine Rv (.int .i64 2) w58 ?_
      refine Rv (.bool true) w58 ?_
      refine Rv (.bool true) w58 ?_
      refine Rv (.bool true) w58 ?_
      refine Rv v4 w58 ?_
      refine Rw (.string (bstr (b ++ c))) w58 (X_convert_str ((hx7.mono m20).mono H.m) rfl rfl Try.underlying25 Try.underlying5 Try.underlying9) ?_
      refine Rv (.slice sa5 sn5 sk5) w58 ?_
      refine Rw (.string (bstr b)) w58 (X_convert_str ((h_b.mono ((((m16.trans m17).trans m18).trans m19).trans m20)).mono H.m) rfl rfl Try.underlying25 Try.underlying5 Try.underlying9) ?_
      refine Rv v902 w58 ?_
      refine Rw (.string (bstr c)) w58 (X_convert_str ((h_c.mono ((((m16.trans m17).trans m18).trans m19).trans m20)).mono H.m) rfl rfl Try.underlying25 Try.underlying5 Try.underlying9) ?_
      refine Rw (.string ((bstr b) ++ (bstr c))) w58 (X_add_str (by first | decide | omega | (simp only [bstr_size]; omega) | (simp; omega)) rfl rfl rfl) ?_
      refine Rv (.bool ((bstr (b ++ c)).toList == ((bstr b) ++ (bstr c)).toList)) w58 ?_
      refine Rv (.bool ((bstr (b ++ c)).toList == ((bstr b) ++ (bstr c)).toList)) w58 ?_
      rcases Bool.eq_false_or_eq_true ((bstr (b ++ c)).toList == ((bstr b) ++ (bstr c)).toList) with c7 | c7
      · refine Rw (.bool true) w58 (eq_bool (by kernel_rfl) c7) ?_
        refine Rv (.int .i64 0) w58 ?_
        refine Rv (.bool true) w58 ?_
        refine Rv (.bool true) w58 ?_
        refine Rv (.bool true) w58 ?_
        refine Rv (.int .i64 0) w58 ?_
        refine Rv (.bool true) w58 ?_
        refine Rv (.bool true) w58 ?_
        refine Rv (.bool true) w58 ?_
        refine Rv (ptr b15 4) w58 ?_
        refine S_load (run_load_one (H.blk 0) Try.underlying3 rfl rfl) rfl rfl rfl rfl rfl ?_
        refine Rv (.bool true) w58 ?_
        refine Rv (.bool true) w58 ?_
        refine Rv (.bool true) w58 ?_
        refine Rv (ptr b15 5) w58 ?_
        refine S_load (run_load_one (H.blk 0) Try.underlying3 rfl rfl) rfl rfl rfl rfl rfl ?_
        refine Rv (.slice sa5 sn5 sk5) w58 ?_
        refine Rw (.int .i64 (b.length : Int)) w58 (X_len ((h_b.mono ((((m16.trans m17).trans m18).trans m19).trans m20)).mono H.m) rfl Try.underlying25 rfl) ?_
        refine Rv v902 w58 ?_
        refine Rw (.int .i64 (c.length : Int)) w58 (X_len ((h_c.mono ((((m16.trans m17).trans m18).trans m19).trans m20)).mono H.m) rfl Try.underlying25 rfl) ?_
        refine Rw (.int .i64 ((b.length : Int) + (c.length : Int))) w58 (eq_int (by kernel_rfl) (wrap64_in (by first | decide | omega | (simp only [bstr_size]; omega) | (simp; omega)) (by first | decide | omega | (simp only [bstr_size]; omega) | (simp; omega)))) ?_
        refine Rv (.bool ((((b ++ c).length : Int) + ((0 : Nat) : Int) + ((0 : Nat) : Int)) == ((b.length : Int) + (c.length : Int)))) w58 ?_
        refine Rv (.bool ((((b ++ c).length : Int) + ((0 : Nat) : Int) + ((0 : Nat) : Int)) == ((b.length : Int) + (c.length : Int)))) w58 ?_
        refine Rv (.bool ((((b ++ c).length : Int) + ((0 : Nat) : Int) + ((0 : Nat) : Int)) == ((b.length : Int) + (c.length : Int)))) w58 ?_
        refine wpR_nil ?_
        refine E_then_normal ?_
        refine C_ret ?_
        refine E_ret (res_one rfl rfl) ⟨_, rfl, ?_⟩
        exact ⟨congrArg Value.bool (by first | exact bstr_app_eq _ _ | (simp; done) | (simp; omega) | (simp_all; done) | (simp_all; omega)), H.toLe⟩
      · refine Rw (.bool false) w58 (eq_bool (by kernel_rfl) c7) ?_
        iterate 2 refine Rs ?_
        refine Rv (.bool false) w58 ?_
        refine Rv (.bool false) w58 ?_
        iterate 2 refine Rs ?_
        refine Rv (.bool false) w58 ?_
        refine Rv (.bool false) w58 ?_
        iterate 3 refine Rs ?_
        refine Rv (.bool false) w58 ?_
        refine Rv (.bool false) w58 ?_
        iterate 8 refine Rs ?_
        refine Rv (.bool false) w58 ?_
        refine Rv (.bool false) w58 ?_
        refine wpR_nil ?_
        refine E_then_normal ?_
        refine C_ret ?_
        refine E_ret (res_one rfl rfl) ⟨_, rfl, ?_⟩
        exact absurd ((by first | exact bstr_app_eq _ _ | (simp; done) | (simp; omega) | (simp_all; done) | (simp_all; omega) : ((bstr (b ++ c)).toList == ((bstr b) ++ (bstr c)).toList) = true).symm.trans c7) (by decide)
end Go.Proofs.Ytnmaehdklmgfmaa
