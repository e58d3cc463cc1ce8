/-
  What is cut is gathered; ours, theirs, Same, small; the document's example (frame).
-/
import Derived.Test.YtemhbpgjnhdchaaDoorFg
set_option linter.unusedVariables false
namespace Go.Proofs.YtemhbpgjnhdchaaDoor
open Go Go.RowKit Sx

/-! ### What is written is read -/
theorem seg_at {X R : List UInt8} {k : Nat} (P : List UInt8) (j : Nat) (hP : P.length = j) (hX : X.length = k) : ((P ++ (X ++ R)).drop j).take k = X := by
  subst hP hX
  simp
theorem rd_sec (e a i c : Nat) (d : List UInt8) (hm : mayP (e : Int) (a : Int) (i : Int) (c : Int) d.length) :
    rdE (secB e a i c d) = 0 ∧ rdN (secB e a i c d) 1 = (e : Int) ∧ rdN (secB e a i c d) 2 = (a : Int) ∧ rdN (secB e a i c d) 3 = (i : Int) ∧ rdN (secB e a i c d) 4 = (c : Int) ∧ rdD (secB e a i c d) = d := by
  have hm2 := hm
  unfold mayP at hm2
  obtain ⟨m1, m2, m3, m4, m5, m6⟩ := hm2
  have hl := secB_length e a i c d m5
  have hs := sumOf_lt (bodyB e a i c d)
  obtain ⟨S, hS⟩ : ∃ S, S = leb 4 (sumOf (bodyB e a i c d)) := ⟨_, rfl⟩
  have hSl : S.length = 4 := by rw [hS, leb_length]
  obtain ⟨x, y, hxy, hx, hy⟩ : ∃ x y : UInt8, leb 2 d.length = [x, y] ∧ x.toNat = d.length ∧ y = 0 := by
    refine ⟨UInt8.ofNat d.length, UInt8.ofNat (d.length / 256), by simp [leb, List.range_succ], by rw [UInt8.toNat_ofNat']; omega, ?_⟩
    rw [show d.length / 256 = 0 from by omega]; rfl
  have hb : secB e a i c d = S ++ (leb 4 e ++ (leb 6 a ++ (leb 2 i ++ (leb 2 c ++ ([x] ++ ([y] ++ (d ++ zs (44 - d.length)))))))) := by
    unfold secB
    rw [← hS]
    unfold bodyB
    rw [hxy]
    simp [List.append_assoc]
  have hdrop : (secB e a i c d).drop 4 = bodyB e a i c d := by
    unfold secB
    rw [← hS]
    exact List.drop_left' hSl
  have e4 : 256 ^ 4 = 4294967296 := by decide
  have e6 : 256 ^ 6 = 281474976710656 := by decide
  have e2 : 256 ^ 2 = 65536 := by decide
  have r0 : rf (secB e a i c d) 0 = sumOf (bodyB e a i c d) := by
    have : (secB e a i c d).take 4 = S := by unfold secB; rw [← hS]; exact List.take_left' hSl
    change num (((secB e a i c d).drop 0).take 4) = _
    rw [List.drop_zero, this, hS, num_leb, e4]
    omega
  have r1 : rf (secB e a i c d) 1 = e := by
    change num (((secB e a i c d).drop 4).take 4) = _
    rw [hb, seg_at S 4 hSl (leb_length _ _), num_leb, e4]
    omega
  have r2 : rf (secB e a i c d) 2 = a := by
    change num (((secB e a i c d).drop 8).take 6) = _
    have := seg_at (X := leb 6 a) (R := leb 2 i ++ (leb 2 c ++ ([x] ++ ([y] ++ (d ++ zs (44 - d.length)))))) (S ++ leb 4 e) 8 (by rw [List.length_append, hSl, leb_length]) (leb_length _ _)
    rw [List.append_assoc] at this
    rw [hb, this, num_leb, e6]
    omega
  have r3 : rf (secB e a i c d) 3 = i := by
    change num (((secB e a i c d).drop 14).take 2) = _
    have := seg_at (X := leb 2 i) (R := leb 2 c ++ ([x] ++ ([y] ++ (d ++ zs (44 - d.length))))) (S ++ (leb 4 e ++ leb 6 a)) 14 (by simp [hSl, leb_length]) (leb_length _ _)
    simp only [List.append_assoc] at this
    rw [hb, this, num_leb, e2]
    omega
  have r4 : rf (secB e a i c d) 4 = c := by
    change num (((secB e a i c d).drop 16).take 2) = _
    have := seg_at (X := leb 2 c) (R := [x] ++ ([y] ++ (d ++ zs (44 - d.length)))) (S ++ (leb 4 e ++ (leb 6 a ++ leb 2 i))) 16 (by simp [hSl, leb_length]) (leb_length _ _)
    simp only [List.append_assoc] at this
    rw [hb, this, num_leb, e2]
    omega
  have r5 : rf (secB e a i c d) 5 = d.length := by
    change num (((secB e a i c d).drop 18).take 1) = _
    have := seg_at (k := 1) (X := [x]) (R := [y] ++ (d ++ zs (44 - d.length))) (S ++ (leb 4 e ++ (leb 6 a ++ (leb 2 i ++ leb 2 c)))) 18 (by simp [hSl, leb_length]) rfl
    simp only [List.append_assoc] at this
    rw [hb, this]
    simp [num, hx]
  have r6 : rf (secB e a i c d) 6 = 0 := by
    change num (((secB e a i c d).drop 19).take 1) = _
    have := seg_at (k := 1) (X := [y]) (R := d ++ zs (44 - d.length)) (S ++ (leb 4 e ++ (leb 6 a ++ (leb 2 i ++ (leb 2 c ++ [x]))))) 19 (by simp [hSl, leb_length]) rfl
    simp only [List.append_assoc] at this
    rw [hb, this, hy]
    simp [num]
  have hd : ((secB e a i c d).drop 20).take d.length = d := by
    have := seg_at (X := d) (R := zs (44 - d.length)) (S ++ (leb 4 e ++ (leb 6 a ++ (leb 2 i ++ (leb 2 c ++ ([x] ++ [y])))))) 20 (by simp [hSl, leb_length]) rfl
    simp only [List.append_assoc] at this
    rw [hb]
    exact this
  have hz : (secB e a i c d).drop (20 + d.length) = zs (44 - d.length) := by
    have hb2 : secB e a i c d = (S ++ (leb 4 e ++ (leb 6 a ++ (leb 2 i ++ (leb 2 c ++ ([x] ++ ([y] ++ d))))))) ++ zs (44 - d.length) := by rw [hb]; simp [List.append_assoc]
    rw [hb2]
    exact List.drop_left' (by simp [hSl, leb_length]; omega)
  have he : rdE (secB e a i c d) = 0 := by
    unfold rdE
    rw [if_neg (by omega), if_neg (by omega), if_neg (by rw [r0, hdrop]; simp), if_pos]
    unfold RdOk
    rw [r1, r2, r3, r4, r5, r6, hz]
    exact ⟨m5, rfl, (nil0_iff _).2 (by rw [zs_length]), hm⟩
  obtain ⟨rn, rd⟩ := rd_ok he
  exact ⟨he, by rw [rn, r1], by rw [rn, r2], by rw [rn, r3], by rw [rn, r4], by rw [rd, r5, hd]⟩
theorem rd_sct {ep at_ : Int} {b : List UInt8} (h : CutOk ep at_ b) (k : Nat) (hk : k < needN b.length) :
    rdE (sct ep at_ b k) = 0 ∧ rdN (sct ep at_ b k) 1 = ep ∧ rdN (sct ep at_ b k) 2 = at_ + (k : Int) ∧ rdN (sct ep at_ b k) 3 = (k : Int) ∧ rdN (sct ep at_ b k) 4 = (needN b.length : Int) ∧ rdD (sct ep at_ b k) = pcD b k := by
  obtain ⟨h1, h2, h3, h4⟩ := h
  have hm := (may_pc ep at_ b k hk h1 h3).2 ⟨h2, by omega⟩
  have e1 : ((ep.toNat : Nat) : Int) = ep := Int.toNat_of_nonneg h2.1
  have e2 : (((at_ + (k : Int)).toNat : Nat) : Int) = at_ + (k : Int) := Int.toNat_of_nonneg (by omega)
  have := rd_sec ep.toNat (at_ + (k : Int)).toNat k (needN b.length) (pcD b k) (by rw [e1, e2]; exact hm)
  rw [e1, e2] at this
  exact this
theorem sct_length {ep at_ : Int} {b : List UInt8} (k : Nat) : (sct ep at_ b k).length = 64 := by
  unfold sct
  exact secB_length _ _ _ _ _ (by rw [pcD_length]; omega)
theorem cutL_mem {ep at_ : Int} {b : List UInt8} : ∀ s ∈ cutL ep at_ b, s.length = 64 := by
  unfold cutL
  split
  · intro s hs
    obtain ⟨k, _, rfl⟩ := List.mem_map.1 hs
    exact sct_length k
  · intro s hs; cases hs
theorem cutL_ok {ep at_ : Int} {b : List UInt8} (h : CutOk ep at_ b) : cutL ep at_ b = cutTo ep at_ b (needN b.length) ∧ (cutL ep at_ b).length = needN b.length ∧ cutE ep at_ b = 0 := by
  have e : cutL ep at_ b = cutTo ep at_ b (needN b.length) := by unfold cutL; rw [if_pos h]
  exact ⟨e, by rw [e]; simp [cutTo], by unfold cutE; rw [if_neg (by have := h.1; omega), if_pos h]⟩
theorem cutTo_drop (ep at_ : Int) (b : List UInt8) (k : Nat) (h : k < needN b.length) : (cutTo ep at_ b (needN b.length)).drop k = sct ep at_ b k :: (cutTo ep at_ b (needN b.length)).drop (k + 1) := by
  rw [List.drop_eq_getElem_cons (by simpa [cutTo] using h)]
  simp [cutTo]
/-! ### What is cut is gathered -/
theorem gat_go {at_ : Int} {b : List UInt8} {l : List (List UInt8)} {k : Nat} {ep ct : Int} {acc : List UInt8} (he : rdE b = 0) (h1 : k = 0 ∨ rdN b 1 = ep ∧ rdN b 4 = ct) (h2 : rdN b 2 = at_ + (k : Int)) (h3 : rdN b 3 = (k : Int)) :
    gat at_ (b :: l) k ep ct acc = if (k : Int) = rdN b 4 - 1 then (acc ++ rdD b, rdN b 1, rdN b 4, 0) else gat at_ l (k + 1) (rdN b 1) (rdN b 4) (acc ++ rdD b) := by
  rw [gat, if_neg (by rw [he]; simp), if_pos]
  refine ⟨?_, ?_, h2, h3⟩
  · split
    · rfl
    · rcases h1 with h | h; contradiction; exact h.1
  · split
    · rfl
    · rcases h1 with h | h; contradiction; exact h.2
theorem pcD_step (b : List UInt8) (k : Nat) : b.drop (44 * k) = pcD b k ++ b.drop (44 * (k + 1)) := by
  have := List.take_append_drop 44 (b.drop (44 * k))
  rw [List.drop_drop, show 44 * k + 44 = 44 * (k + 1) from by omega] at this
  exact this.symm
theorem gat_cut {ep at_ : Int} {b : List UInt8} (h : CutOk ep at_ b) (more : List (List UInt8)) : ∀ (j k : Nat) (e c : Int) (acc : List UInt8), j + k + 1 = needN b.length → (k = 0 ∨ ep = e ∧ (needN b.length : Int) = c) →
    gat at_ ((cutTo ep at_ b (needN b.length)).drop k ++ more) k e c acc = (acc ++ b.drop (44 * k), ep, (needN b.length : Int), 0)
  | 0, k, e, c, acc, hj, h0 => by
    obtain ⟨r1, r2, r3, r4, r5, r6⟩ := rd_sct h k (by omega)
    rw [cutTo_drop _ _ _ _ (by omega), List.cons_append, gat_go r1 (by rw [r2, r5]; exact h0) r3 r4, r2, r5, r6, if_pos (by omega)]
    have := pcD_step b k
    rw [List.drop_of_length_le (by have := (needN_facts b.length).2.1; omega : b.length ≤ 44 * (k + 1)), List.append_nil] at this
    rw [this]
  | j + 1, k, e, c, acc, hj, h0 => by
    obtain ⟨r1, r2, r3, r4, r5, r6⟩ := rd_sct h k (by omega)
    rw [cutTo_drop _ _ _ _ (by omega), List.cons_append, gat_go r1 (by rw [r2, r5]; exact h0) r3 r4, r2, r5, r6, if_neg (by omega)]
    rw [gat_cut h more j (k + 1) ep _ (acc ++ pcD b k) (by omega) (.inr ⟨rfl, rfl⟩), pcD_step b k, List.append_assoc]
theorem gatI_cut {ep at_ : Int} {b : List UInt8} (h : CutOk ep at_ b) (more : List (List UInt8)) : gatI (cutL ep at_ b ++ more) at_ = (b, ep, (needN b.length : Int), 0) := by
  obtain ⟨f1, f2, f3⟩ := needN_facts b.length
  have := gat_cut h more (needN b.length - 1) 0 0 0 [] (by omega) (.inl rfl)
  rw [(cutL_ok h).1, gatI]
  simpa using this

/-! ### Small contracts -/
set_option maxRecDepth 100000 in
set_option maxHeartbeats 2000000 in
theorem ours06 (ep at_ ix ct : Int) (A : Option Addr) (n c : Nat) (w : World) : Calls Tryd.prog 16 #[pcv ep at_ ix ct A n c] w (RetV w (pcv ep at_ ix ct A n c)) := by
  have M := Mem.refl w
  refine enter ?_
  (repeat (with_reducible first | refine st_move ?_ | refine st_assign ?_ | refine st_len ?_ | refine st_fieldAddr0 ?_ | refine st_fieldAddr ?_ | refine st_load M ?_ | refine st_loadAgg M ?_ | refine st_load_old M ?_ | refine st_loadAgg_old M ?_ | refine st_idx_rowN M ?_ | refine st_idx_row M ?_ | refine st_idx_viewN ?_ | refine st_idx_view ?_ | refine st_ld_row M ?_ | refine st_ld_view M ?_ | refine st_str_row M ?_ | refine st_str_view M ?_ | refine st_slice_lo ?_ | refine st_slice_hi ?_ | refine st_slice_both ?_ | refine st_eq_slice_nil ?_ | refine st_eq_ptr_nil ?_ | refine st_box M fun g w1 M => ?_ | refine st_alloc M fun g w1 M => ?_ | refine st_build_struct ?_ | refine st_build_arr ?_ | refine st_store M fun w1 M => ?_ | refine st_storeAgg0 M fun w1 M => ?_ | refine st_buildSlice M fun g w1 M => ?_ | refine st_app_row M fun A' c' w1 M => ?_ | refine st_app_view M fun A' c' w1 M => ?_ | refine st_app_zeros M fun A' c' w1 M => ?_ | refine st_make M fun g w1 M => ?_ | refine st_arrptr ?_ | refine hq_nil ?_ | refine hq_then_normal ?_ | refine hq_seq ?_ | refine hq_region ?_ | refine hq_block ?_ | refine hq_skip ?_ | refine hq_ret ?_ | refine hq_exit ?_ | refine hq_then_ret ?_ | refine hq_then_exit ?_ | refine hq_blk_normal ?_ | refine hq_blk_ret ?_ | refine hq_blk_exit ?_ | refine hq_blk_exit_ne ?_ | refine hq_cond_true ?_ | refine hq_cond_false ?_ | refine st_extract ?_ | refine hq_guard_yes ?_ | refine hq_guard_no ?_ | refine hq_guard_un ?_ | refine st_pick ?_ | refine st_nilCheck ?_ | refine st_not ?_ | refine st_cmp_yes ?_ | refine st_cmp_no ?_ | refine st_add ?_ | refine st_sub ?_ | refine st_rem ?_ | refine st_quo ?_ | refine st_mul ?_ | refine st_mask ?_ | refine st_eqb_same ?_ | refine st_eqb ?_ | refine st_neb ?_ | refine st_rem_k ?_ | refine st_quo_k ?_ | refine st_add_k ?_ | refine st_mul_k ?_ | refine st_neg_k ?_ | refine st_conv ?_ | refine st_eqs_same ?_ | refine st_nes_same ?_ | refine st_eqbs ?_ | refine st_nebs ?_))
  exact hq_endc M rfl ⟨rfl, M.dropAll⟩
set_option maxRecDepth 100000 in
set_option maxHeartbeats 2000000 in
theorem theirs06 (ep at_ ix ct : Int) (A : Option Addr) (n c : Nat) (w : World) : Calls Tryd.prog 22 #[pcv ep at_ ix ct A n c] w (RetV w (pcv ep at_ ix ct A n c)) := by
  have M := Mem.refl w
  refine enter ?_
  (repeat (with_reducible first | refine st_move ?_ | refine st_assign ?_ | refine st_len ?_ | refine st_fieldAddr0 ?_ | refine st_fieldAddr ?_ | refine st_load M ?_ | refine st_loadAgg M ?_ | refine st_load_old M ?_ | refine st_loadAgg_old M ?_ | refine st_idx_rowN M ?_ | refine st_idx_row M ?_ | refine st_idx_viewN ?_ | refine st_idx_view ?_ | refine st_ld_row M ?_ | refine st_ld_view M ?_ | refine st_str_row M ?_ | refine st_str_view M ?_ | refine st_slice_lo ?_ | refine st_slice_hi ?_ | refine st_slice_both ?_ | refine st_eq_slice_nil ?_ | refine st_eq_ptr_nil ?_ | refine st_box M fun g w1 M => ?_ | refine st_alloc M fun g w1 M => ?_ | refine st_build_struct ?_ | refine st_build_arr ?_ | refine st_store M fun w1 M => ?_ | refine st_storeAgg0 M fun w1 M => ?_ | refine st_buildSlice M fun g w1 M => ?_ | refine st_app_row M fun A' c' w1 M => ?_ | refine st_app_view M fun A' c' w1 M => ?_ | refine st_app_zeros M fun A' c' w1 M => ?_ | refine st_make M fun g w1 M => ?_ | refine st_arrptr ?_ | refine hq_nil ?_ | refine hq_then_normal ?_ | refine hq_seq ?_ | refine hq_region ?_ | refine hq_block ?_ | refine hq_skip ?_ | refine hq_ret ?_ | refine hq_exit ?_ | refine hq_then_ret ?_ | refine hq_then_exit ?_ | refine hq_blk_normal ?_ | refine hq_blk_ret ?_ | refine hq_blk_exit ?_ | refine hq_blk_exit_ne ?_ | refine hq_cond_true ?_ | refine hq_cond_false ?_ | refine st_extract ?_ | refine hq_guard_yes ?_ | refine hq_guard_no ?_ | refine hq_guard_un ?_ | refine st_pick ?_ | refine st_nilCheck ?_ | refine st_not ?_ | refine st_cmp_yes ?_ | refine st_cmp_no ?_ | refine st_add ?_ | refine st_sub ?_ | refine st_rem ?_ | refine st_quo ?_ | refine st_mul ?_ | refine st_mask ?_ | refine st_eqb_same ?_ | refine st_eqb ?_ | refine st_neb ?_ | refine st_rem_k ?_ | refine st_quo_k ?_ | refine st_add_k ?_ | refine st_mul_k ?_ | refine st_neg_k ?_ | refine st_conv ?_ | refine st_eqs_same ?_ | refine st_nes_same ?_ | refine st_eqbs ?_ | refine st_nebs ?_))
  exact hq_endc M rfl ⟨rfl, M.dropAll⟩
set_option maxRecDepth 100000 in
set_option maxHeartbeats 2000000 in
theorem same_yes (ep at_ ix ct : Int) (A B : Option Addr) (n c c2 : Nat) (D : List UInt8) (w : World) (hV : View w A (D.map bv)) (hV2 : View w B (D.map bv)) (hl : D.length = n) :
    Calls Tryd.prog 21 #[pcv ep at_ ix ct A n c, pcv ep at_ ix ct B n c2] w (RetV w (.bool true)) := by
  have M := Mem.refl w
  refine enter ?_
  (repeat (with_reducible first | refine st_move ?_ | refine st_assign ?_ | refine st_len ?_ | refine st_fieldAddr0 ?_ | refine st_fieldAddr ?_ | refine st_load M ?_ | refine st_loadAgg M ?_ | refine st_load_old M ?_ | refine st_loadAgg_old M ?_ | refine st_idx_rowN M ?_ | refine st_idx_row M ?_ | refine st_idx_viewN ?_ | refine st_idx_view ?_ | refine st_ld_row M ?_ | refine st_ld_view M ?_ | refine st_str_row M ?_ | refine st_str_view M ?_ | refine st_slice_lo ?_ | refine st_slice_hi ?_ | refine st_slice_both ?_ | refine st_eq_slice_nil ?_ | refine st_eq_ptr_nil ?_ | refine st_box M fun g w1 M => ?_ | refine st_alloc M fun g w1 M => ?_ | refine st_build_struct ?_ | refine st_build_arr ?_ | refine st_store M fun w1 M => ?_ | refine st_storeAgg0 M fun w1 M => ?_ | refine st_buildSlice M fun g w1 M => ?_ | refine st_app_row M fun A' c' w1 M => ?_ | refine st_app_view M fun A' c' w1 M => ?_ | refine st_app_zeros M fun A' c' w1 M => ?_ | refine st_make M fun g w1 M => ?_ | refine st_arrptr ?_ | refine hq_nil ?_ | refine hq_then_normal ?_ | refine hq_seq ?_ | refine hq_region ?_ | refine hq_block ?_ | refine hq_skip ?_ | refine hq_ret ?_ | refine hq_exit ?_ | refine hq_then_ret ?_ | refine hq_then_exit ?_ | refine hq_blk_normal ?_ | refine hq_blk_ret ?_ | refine hq_blk_exit ?_ | refine hq_blk_exit_ne ?_ | refine hq_cond_true ?_ | refine hq_cond_false ?_ | refine st_extract ?_ | refine hq_guard_yes ?_ | refine hq_guard_no ?_ | refine hq_guard_un ?_ | refine st_pick ?_ | refine st_nilCheck ?_ | refine st_not ?_ | refine st_cmp_yes ?_ | refine st_cmp_no ?_ | refine st_add ?_ | refine st_sub ?_ | refine st_rem ?_ | refine st_quo ?_ | refine st_mul ?_ | refine st_mask ?_ | refine st_eqb_same ?_ | refine st_eqb ?_ | refine st_neb ?_ | refine st_rem_k ?_ | refine st_quo_k ?_ | refine st_add_k ?_ | refine st_mul_k ?_ | refine st_neg_k ?_ | refine st_conv ?_ | refine st_eqs_same ?_ | refine st_nes_same ?_ | refine st_eqbs ?_ | refine st_nebs ?_))
  exact hq_end1 ⟨rfl, M.dropAll⟩
def smallB (rs : List Rw) : Bool := decide (rs.length ≤ 30) && rs.all fun r => decide (r.n ≤ 200)
set_option maxRecDepth 100000 in
set_option maxHeartbeats 2000000 in
theorem small_spec (B : Option Addr) (m c : Nat) (rs : List Rw) (w : World) (hV : View w B (rs.map Rw.v)) (hl : rs.length = m) :
    Calls Tryd.prog 14 #[.slice B m c] w (RetV w (.bool (smallB rs))) := by
  have M := Mem.refl w
  refine enter ?_
  by_cases h30 : m ≤ 30
  · (repeat (with_reducible first | refine st_move ?_ | refine st_assign ?_ | refine st_len ?_ | refine st_fieldAddr0 ?_ | refine st_fieldAddr ?_ | refine st_load M ?_ | refine st_loadAgg M ?_ | refine st_load_old M ?_ | refine st_loadAgg_old M ?_ | refine st_idx_rowN M ?_ | refine st_idx_row M ?_ | refine st_idx_viewN ?_ | refine st_idx_view ?_ | refine st_ld_row M ?_ | refine st_ld_view M ?_ | refine st_str_row M ?_ | refine st_str_view M ?_ | refine st_slice_lo ?_ | refine st_slice_hi ?_ | refine st_slice_both ?_ | refine st_eq_slice_nil ?_ | refine st_eq_ptr_nil ?_ | refine st_box M fun g w1 M => ?_ | refine st_alloc M fun g w1 M => ?_ | refine st_build_struct ?_ | refine st_build_arr ?_ | refine st_store M fun w1 M => ?_ | refine st_storeAgg0 M fun w1 M => ?_ | refine st_buildSlice M fun g w1 M => ?_ | refine st_app_row M fun A' c' w1 M => ?_ | refine st_app_view M fun A' c' w1 M => ?_ | refine st_app_zeros M fun A' c' w1 M => ?_ | refine st_make M fun g w1 M => ?_ | refine st_arrptr ?_ | refine hq_nil ?_ | refine hq_then_normal ?_ | refine hq_seq ?_ | refine hq_region ?_ | refine hq_block ?_ | refine hq_skip ?_ | refine hq_ret ?_ | refine hq_exit ?_ | refine hq_then_ret ?_ | refine hq_then_exit ?_ | refine hq_blk_normal ?_ | refine hq_blk_ret ?_ | refine hq_blk_exit ?_ | refine hq_blk_exit_ne ?_ | refine hq_cond_true ?_ | refine hq_cond_false ?_ | refine st_extract ?_ | refine hq_guard_yes ?_ | refine hq_guard_no ?_ | refine hq_guard_un ?_ | refine st_pick ?_ | refine st_nilCheck ?_ | refine st_not ?_ | refine st_cmp_yes ?_ | refine st_cmp_no ?_ | refine st_add ?_ | refine st_sub ?_ | refine st_rem ?_ | refine st_quo ?_ | refine st_mul ?_ | refine st_mask ?_ | refine st_eqb_same ?_ | refine st_eqb ?_ | refine st_neb ?_ | refine st_rem_k ?_ | refine st_quo_k ?_ | refine st_add_k ?_ | refine st_mul_k ?_ | refine st_neg_k ?_ | refine st_conv ?_ | refine st_eqs_same ?_ | refine st_nes_same ?_ | refine st_eqbs ?_ | refine st_nebs ?_))
    refine hq_loop (ι := Nat) (fun k => [(0, .slice B m c), (3, .int .i64 (k : Int))]) (fun k wr => k ≤ m ∧ (rs.take k).all (fun r => decide (r.n ≤ 200)) = true ∧ Mem w [] [] wr) (fun k _ => m - k) 0 ⟨by omega, rfl, M⟩ ?_
    rintro k wr ⟨hk, ha, M⟩
    by_cases hlt : k < m
    · have hgt : rs[k]? = some (rs.getD k default) := by simp [List.getD, show k < rs.length by omega]
      obtain ⟨r, hrd⟩ : ∃ r, r = rs.getD k default := ⟨_, rfl⟩
      rw [← hrd] at hgt
      (repeat (with_reducible first | refine st_move ?_ | refine st_assign ?_ | refine st_len ?_ | refine st_fieldAddr0 ?_ | refine st_fieldAddr ?_ | refine st_load M ?_ | refine st_loadAgg M ?_ | refine st_load_old M ?_ | refine st_loadAgg_old M ?_ | refine st_idx_rowN M ?_ | refine st_idx_row M ?_ | refine st_idx_viewN ?_ | refine st_idx_view ?_ | refine st_ld_row M ?_ | refine st_ld_view M ?_ | refine st_str_row M ?_ | refine st_str_view M ?_ | refine st_slice_lo ?_ | refine st_slice_hi ?_ | refine st_slice_both ?_ | refine st_eq_slice_nil ?_ | refine st_eq_ptr_nil ?_ | refine st_box M fun g w1 M => ?_ | refine st_alloc M fun g w1 M => ?_ | refine st_build_struct ?_ | refine st_build_arr ?_ | refine st_store M fun w1 M => ?_ | refine st_storeAgg0 M fun w1 M => ?_ | refine st_buildSlice M fun g w1 M => ?_ | refine st_app_row M fun A' c' w1 M => ?_ | refine st_app_view M fun A' c' w1 M => ?_ | refine st_app_zeros M fun A' c' w1 M => ?_ | refine st_make M fun g w1 M => ?_ | refine st_arrptr ?_ | refine hq_nil ?_ | refine hq_then_normal ?_ | refine hq_seq ?_ | refine hq_region ?_ | refine hq_block ?_ | refine hq_skip ?_ | refine hq_ret ?_ | refine hq_exit ?_ | refine hq_then_ret ?_ | refine hq_then_exit ?_ | refine hq_blk_normal ?_ | refine hq_blk_ret ?_ | refine hq_blk_exit ?_ | refine hq_blk_exit_ne ?_ | refine hq_cond_true ?_ | refine hq_cond_false ?_ | refine st_extract ?_ | refine hq_guard_yes ?_ | refine hq_guard_no ?_ | refine hq_guard_un ?_ | refine st_pick ?_ | refine st_nilCheck ?_ | refine st_not ?_ | refine st_cmp_yes ?_ | refine st_cmp_no ?_ | refine st_add ?_ | refine st_sub ?_ | refine st_rem ?_ | refine st_quo ?_ | refine st_mul ?_ | refine st_mask ?_ | refine st_eqb_same ?_ | refine st_eqb ?_ | refine st_neb ?_ | refine st_rem_k ?_ | refine st_quo_k ?_ | refine st_add_k ?_ | refine st_mul_k ?_ | refine st_neg_k ?_ | refine st_conv ?_ | refine st_eqs_same ?_ | refine st_nes_same ?_ | refine st_eqbs ?_ | refine st_nebs ?_))
      rw [← hrd]
      by_cases hn : r.n ≤ 200
      · (repeat (with_reducible first | refine st_move ?_ | refine st_assign ?_ | refine st_len ?_ | refine st_fieldAddr0 ?_ | refine st_fieldAddr ?_ | refine st_load M ?_ | refine st_loadAgg M ?_ | refine st_load_old M ?_ | refine st_loadAgg_old M ?_ | refine st_idx_rowN M ?_ | refine st_idx_row M ?_ | refine st_idx_viewN ?_ | refine st_idx_view ?_ | refine st_ld_row M ?_ | refine st_ld_view M ?_ | refine st_str_row M ?_ | refine st_str_view M ?_ | refine st_slice_lo ?_ | refine st_slice_hi ?_ | refine st_slice_both ?_ | refine st_eq_slice_nil ?_ | refine st_eq_ptr_nil ?_ | refine st_box M fun g w1 M => ?_ | refine st_alloc M fun g w1 M => ?_ | refine st_build_struct ?_ | refine st_build_arr ?_ | refine st_store M fun w1 M => ?_ | refine st_storeAgg0 M fun w1 M => ?_ | refine st_buildSlice M fun g w1 M => ?_ | refine st_app_row M fun A' c' w1 M => ?_ | refine st_app_view M fun A' c' w1 M => ?_ | refine st_app_zeros M fun A' c' w1 M => ?_ | refine st_make M fun g w1 M => ?_ | refine st_arrptr ?_ | refine hq_nil ?_ | refine hq_then_normal ?_ | refine hq_seq ?_ | refine hq_region ?_ | refine hq_block ?_ | refine hq_skip ?_ | refine hq_ret ?_ | refine hq_exit ?_ | refine hq_then_ret ?_ | refine hq_then_exit ?_ | refine hq_blk_normal ?_ | refine hq_blk_ret ?_ | refine hq_blk_exit ?_ | refine hq_blk_exit_ne ?_ | refine hq_cond_true ?_ | refine hq_cond_false ?_ | refine st_extract ?_ | refine hq_guard_yes ?_ | refine hq_guard_no ?_ | refine hq_guard_un ?_ | refine st_pick ?_ | refine st_nilCheck ?_ | refine st_not ?_ | refine st_cmp_yes ?_ | refine st_cmp_no ?_ | refine st_add ?_ | refine st_sub ?_ | refine st_rem ?_ | refine st_quo ?_ | refine st_mul ?_ | refine st_mask ?_ | refine st_eqb_same ?_ | refine st_eqb ?_ | refine st_neb ?_ | refine st_rem_k ?_ | refine st_quo_k ?_ | refine st_add_k ?_ | refine st_mul_k ?_ | refine st_neg_k ?_ | refine st_conv ?_ | refine st_eqs_same ?_ | refine st_nes_same ?_ | refine st_eqbs ?_ | refine st_nebs ?_))
        refine hq_round (k + 1) ⟨by omega, ?_, M⟩
        rw [List.take_add_one, hgt, List.all_append, ha]
        simpa using hn
      · (repeat (with_reducible first | refine st_move ?_ | refine st_assign ?_ | refine st_len ?_ | refine st_fieldAddr0 ?_ | refine st_fieldAddr ?_ | refine st_load M ?_ | refine st_loadAgg M ?_ | refine st_load_old M ?_ | refine st_loadAgg_old M ?_ | refine st_idx_rowN M ?_ | refine st_idx_row M ?_ | refine st_idx_viewN ?_ | refine st_idx_view ?_ | refine st_ld_row M ?_ | refine st_ld_view M ?_ | refine st_str_row M ?_ | refine st_str_view M ?_ | refine st_slice_lo ?_ | refine st_slice_hi ?_ | refine st_slice_both ?_ | refine st_eq_slice_nil ?_ | refine st_eq_ptr_nil ?_ | refine st_box M fun g w1 M => ?_ | refine st_alloc M fun g w1 M => ?_ | refine st_build_struct ?_ | refine st_build_arr ?_ | refine st_store M fun w1 M => ?_ | refine st_storeAgg0 M fun w1 M => ?_ | refine st_buildSlice M fun g w1 M => ?_ | refine st_app_row M fun A' c' w1 M => ?_ | refine st_app_view M fun A' c' w1 M => ?_ | refine st_app_zeros M fun A' c' w1 M => ?_ | refine st_make M fun g w1 M => ?_ | refine st_arrptr ?_ | refine hq_nil ?_ | refine hq_then_normal ?_ | refine hq_seq ?_ | refine hq_region ?_ | refine hq_block ?_ | refine hq_skip ?_ | refine hq_ret ?_ | refine hq_exit ?_ | refine hq_then_ret ?_ | refine hq_then_exit ?_ | refine hq_blk_normal ?_ | refine hq_blk_ret ?_ | refine hq_blk_exit ?_ | refine hq_blk_exit_ne ?_ | refine hq_cond_true ?_ | refine hq_cond_false ?_ | refine st_extract ?_ | refine hq_guard_yes ?_ | refine hq_guard_no ?_ | refine hq_guard_un ?_ | refine st_pick ?_ | refine st_nilCheck ?_ | refine st_not ?_ | refine st_cmp_yes ?_ | refine st_cmp_no ?_ | refine st_add ?_ | refine st_sub ?_ | refine st_rem ?_ | refine st_quo ?_ | refine st_mul ?_ | refine st_mask ?_ | refine st_eqb_same ?_ | refine st_eqb ?_ | refine st_neb ?_ | refine st_rem_k ?_ | refine st_quo_k ?_ | refine st_add_k ?_ | refine st_mul_k ?_ | refine st_neg_k ?_ | refine st_conv ?_ | refine st_eqs_same ?_ | refine st_nes_same ?_ | refine st_eqbs ?_ | refine st_nebs ?_))
        refine hq_end1 ⟨?_, M.dropAll⟩
        have : smallB rs = false := by
          unfold smallB
          rw [Bool.and_eq_false_iff]
          right
          rw [← Bool.not_eq_true, List.all_eq_true]
          intro h
          exact hn (of_decide_eq_true (h r (List.mem_of_getElem? hgt)))
        rw [this]
    · obtain rfl : k = m := by omega
      rw [List.take_of_length_le (by omega)] at ha
      (repeat (with_reducible first | refine st_move ?_ | refine st_assign ?_ | refine st_len ?_ | refine st_fieldAddr0 ?_ | refine st_fieldAddr ?_ | refine st_load M ?_ | refine st_loadAgg M ?_ | refine st_load_old M ?_ | refine st_loadAgg_old M ?_ | refine st_idx_rowN M ?_ | refine st_idx_row M ?_ | refine st_idx_viewN ?_ | refine st_idx_view ?_ | refine st_ld_row M ?_ | refine st_ld_view M ?_ | refine st_str_row M ?_ | refine st_str_view M ?_ | refine st_slice_lo ?_ | refine st_slice_hi ?_ | refine st_slice_both ?_ | refine st_eq_slice_nil ?_ | refine st_eq_ptr_nil ?_ | refine st_box M fun g w1 M => ?_ | refine st_alloc M fun g w1 M => ?_ | refine st_build_struct ?_ | refine st_build_arr ?_ | refine st_store M fun w1 M => ?_ | refine st_storeAgg0 M fun w1 M => ?_ | refine st_buildSlice M fun g w1 M => ?_ | refine st_app_row M fun A' c' w1 M => ?_ | refine st_app_view M fun A' c' w1 M => ?_ | refine st_app_zeros M fun A' c' w1 M => ?_ | refine st_make M fun g w1 M => ?_ | refine st_arrptr ?_ | refine hq_nil ?_ | refine hq_then_normal ?_ | refine hq_seq ?_ | refine hq_region ?_ | refine hq_block ?_ | refine hq_skip ?_ | refine hq_ret ?_ | refine hq_exit ?_ | refine hq_then_ret ?_ | refine hq_then_exit ?_ | refine hq_blk_normal ?_ | refine hq_blk_ret ?_ | refine hq_blk_exit ?_ | refine hq_blk_exit_ne ?_ | refine hq_cond_true ?_ | refine hq_cond_false ?_ | refine st_extract ?_ | refine hq_guard_yes ?_ | refine hq_guard_no ?_ | refine hq_guard_un ?_ | refine st_pick ?_ | refine st_nilCheck ?_ | refine st_not ?_ | refine st_cmp_yes ?_ | refine st_cmp_no ?_ | refine st_add ?_ | refine st_sub ?_ | refine st_rem ?_ | refine st_quo ?_ | refine st_mul ?_ | refine st_mask ?_ | refine st_eqb_same ?_ | refine st_eqb ?_ | refine st_neb ?_ | refine st_rem_k ?_ | refine st_quo_k ?_ | refine st_add_k ?_ | refine st_mul_k ?_ | refine st_neg_k ?_ | refine st_conv ?_ | refine st_eqs_same ?_ | refine st_nes_same ?_ | refine st_eqbs ?_ | refine st_nebs ?_))
      refine hq_end1 ⟨?_, M.dropAll⟩
      have : smallB rs = true := by unfold smallB; rw [ha, decide_eq_true (by omega)]; rfl
      rw [this]
  · have : smallB rs = false := by unfold smallB; rw [decide_eq_false (by omega)]; rfl
    rw [this]
    (repeat (with_reducible first | refine st_move ?_ | refine st_assign ?_ | refine st_len ?_ | refine st_fieldAddr0 ?_ | refine st_fieldAddr ?_ | refine st_load M ?_ | refine st_loadAgg M ?_ | refine st_load_old M ?_ | refine st_loadAgg_old M ?_ | refine st_idx_rowN M ?_ | refine st_idx_row M ?_ | refine st_idx_viewN ?_ | refine st_idx_view ?_ | refine st_ld_row M ?_ | refine st_ld_view M ?_ | refine st_str_row M ?_ | refine st_str_view M ?_ | refine st_slice_lo ?_ | refine st_slice_hi ?_ | refine st_slice_both ?_ | refine st_eq_slice_nil ?_ | refine st_eq_ptr_nil ?_ | refine st_box M fun g w1 M => ?_ | refine st_alloc M fun g w1 M => ?_ | refine st_build_struct ?_ | refine st_build_arr ?_ | refine st_store M fun w1 M => ?_ | refine st_storeAgg0 M fun w1 M => ?_ | refine st_buildSlice M fun g w1 M => ?_ | refine st_app_row M fun A' c' w1 M => ?_ | refine st_app_view M fun A' c' w1 M => ?_ | refine st_app_zeros M fun A' c' w1 M => ?_ | refine st_make M fun g w1 M => ?_ | refine st_arrptr ?_ | refine hq_nil ?_ | refine hq_then_normal ?_ | refine hq_seq ?_ | refine hq_region ?_ | refine hq_block ?_ | refine hq_skip ?_ | refine hq_ret ?_ | refine hq_exit ?_ | refine hq_then_ret ?_ | refine hq_then_exit ?_ | refine hq_blk_normal ?_ | refine hq_blk_ret ?_ | refine hq_blk_exit ?_ | refine hq_blk_exit_ne ?_ | refine hq_cond_true ?_ | refine hq_cond_false ?_ | refine st_extract ?_ | refine hq_guard_yes ?_ | refine hq_guard_no ?_ | refine hq_guard_un ?_ | refine st_pick ?_ | refine st_nilCheck ?_ | refine st_not ?_ | refine st_cmp_yes ?_ | refine st_cmp_no ?_ | refine st_add ?_ | refine st_sub ?_ | refine st_rem ?_ | refine st_quo ?_ | refine st_mul ?_ | refine st_mask ?_ | refine st_eqb_same ?_ | refine st_eqb ?_ | refine st_neb ?_ | refine st_rem_k ?_ | refine st_quo_k ?_ | refine st_add_k ?_ | refine st_mul_k ?_ | refine st_neg_k ?_ | refine st_conv ?_ | refine st_eqs_same ?_ | refine st_nes_same ?_ | refine st_eqbs ?_ | refine st_nebs ?_))
    exact hq_end1 ⟨rfl, M.dropAll⟩
theorem small_facts {rs : List Rw} (h : smallB rs = true) : rs.length ≤ 30 ∧ ∀ r ∈ rs, r.n ≤ 200 := by
  unfold smallB at h
  rw [Bool.and_eq_true, decide_eq_true_iff, List.all_eq_true] at h
  exact ⟨h.1, fun r hr => of_decide_eq_true (h.2 r hr)⟩
/-- The rows that a cut has made. -/
theorem cut_rows {w0 w : World} {S : List Nat} {A : Option Addr} {n c tu : Nat} {rs : List Rw} (N : Mem w0 S (.row A n c (rs.map Rw.v) tu 1 :: rs.map rent) w) (h : ∀ s ∈ rs.map (·.bs), s.length = 64) :
    View w A (rs.map Rw.v) ∧ rs.length = n ∧ ∀ r ∈ rs, r.ok w ∧ r.n ≤ 1000000 := by
  refine ⟨view_row N.r0, by have := Ent.len N.r0; simpa using this, fun r hr => ?_⟩
  have h1 := rents_ok N rs (fun r hr => List.mem_cons_of_mem _ (List.mem_map_of_mem hr)) r hr
  have h2 := h r.bs (List.mem_map_of_mem hr)
  have h3 := h1.len
  exact ⟨h1, by omega⟩

set_option maxRecDepth 100000 in
set_option maxHeartbeats 2000000 in
set_option maxHeartbeats 8000000 in
theorem awake06 (w : World) : Calls Tryd.prog 9 #[] w (RetV w (.bool true)) := by
  have M := Mem.refl w
  refine enter ?_
  have hok : CutOk 3 7 (zs 45) := by decide +kernel
  obtain ⟨l1, l2, l3⟩ := cutL_ok hok
  have hn : needN (zs 45).length = 2 := by decide +kernel
  rw [hn] at l2
  have hg := gatI_cut hok []
  rw [List.append_nil, hn] at hg
  (repeat (with_reducible first | refine st_move ?_ | refine st_assign ?_ | refine st_len ?_ | refine st_fieldAddr0 ?_ | refine st_fieldAddr ?_ | refine st_load M ?_ | refine st_loadAgg M ?_ | refine st_load_old M ?_ | refine st_loadAgg_old M ?_ | refine st_idx_rowN M ?_ | refine st_idx_row M ?_ | refine st_idx_viewN ?_ | refine st_idx_view ?_ | refine st_ld_row M ?_ | refine st_ld_view M ?_ | refine st_str_row M ?_ | refine st_str_view M ?_ | refine st_slice_lo ?_ | refine st_slice_hi ?_ | refine st_slice_both ?_ | refine st_eq_slice_nil ?_ | refine st_eq_ptr_nil ?_ | refine st_box M fun g w1 M => ?_ | refine st_alloc M fun g w1 M => ?_ | refine st_build_struct ?_ | refine st_build_arr ?_ | refine st_store M fun w1 M => ?_ | refine st_storeAgg0 M fun w1 M => ?_ | refine st_buildSlice M fun g w1 M => ?_ | refine st_app_row M fun A' c' w1 M => ?_ | refine st_app_view M fun A' c' w1 M => ?_ | refine st_app_zeros M fun A' c' w1 M => ?_ | refine st_make M fun g w1 M => ?_ | refine st_arrptr ?_ | refine hq_nil ?_ | refine hq_then_normal ?_ | refine hq_seq ?_ | refine hq_region ?_ | refine hq_block ?_ | refine hq_skip ?_ | refine hq_ret ?_ | refine hq_exit ?_ | refine hq_then_ret ?_ | refine hq_then_exit ?_ | refine hq_blk_normal ?_ | refine hq_blk_ret ?_ | refine hq_blk_exit ?_ | refine hq_blk_exit_ne ?_ | refine hq_cond_true ?_ | refine hq_cond_false ?_ | refine st_extract ?_ | refine hq_guard_yes ?_ | refine hq_guard_no ?_ | refine hq_guard_un ?_ | refine st_pick ?_ | refine st_nilCheck ?_ | refine st_not ?_ | refine st_cmp_yes ?_ | refine st_cmp_no ?_ | refine st_add ?_ | refine st_sub ?_ | refine st_rem ?_ | refine st_quo ?_ | refine st_mul ?_ | refine st_mask ?_ | refine st_eqb_same ?_ | refine st_eqb ?_ | refine st_neb ?_ | refine st_rem_k ?_ | refine st_quo_k ?_ | refine st_add_k ?_ | refine st_mul_k ?_ | refine st_neg_k ?_ | refine st_conv ?_ | refine st_eqs_same ?_ | refine st_nes_same ?_ | refine st_eqbs ?_ | refine st_nebs ?_))
  rw [zs_bv] at M
  refine st_call rfl (cut_spec 3 7 _ 45 45 (zs 45) _ (view_row M.r0) (zs_length 45) (Nat.le_refl _) (by omega)) ?_
  rintro e w1 ⟨A, c, rs, rfl, hrs, N⟩
  refine ⟨_, rfl, ?_⟩
  rw [l2] at N ⊢
  rw [l3]
  have M0 := M.dropAll.call0 (Mem.dropAll N)
  obtain ⟨hVc, hlc, hrc⟩ := cut_rows N (by rw [hrs]; exact cutL_mem)
  rw [← hrs] at hg
  clear N M
  have M := Mem.refl w1
  (repeat (with_reducible first | refine st_move ?_ | refine st_assign ?_ | refine st_len ?_ | refine st_fieldAddr0 ?_ | refine st_fieldAddr ?_ | refine st_load M ?_ | refine st_loadAgg M ?_ | refine st_load_old M ?_ | refine st_loadAgg_old M ?_ | refine st_idx_rowN M ?_ | refine st_idx_row M ?_ | refine st_idx_viewN ?_ | refine st_idx_view ?_ | refine st_ld_row M ?_ | refine st_ld_view M ?_ | refine st_str_row M ?_ | refine st_str_view M ?_ | refine st_slice_lo ?_ | refine st_slice_hi ?_ | refine st_slice_both ?_ | refine st_eq_slice_nil ?_ | refine st_eq_ptr_nil ?_ | refine st_box M fun g w1 M => ?_ | refine st_alloc M fun g w1 M => ?_ | refine st_build_struct ?_ | refine st_build_arr ?_ | refine st_store M fun w1 M => ?_ | refine st_storeAgg0 M fun w1 M => ?_ | refine st_buildSlice M fun g w1 M => ?_ | refine st_app_row M fun A' c' w1 M => ?_ | refine st_app_view M fun A' c' w1 M => ?_ | refine st_app_zeros M fun A' c' w1 M => ?_ | refine st_make M fun g w1 M => ?_ | refine st_arrptr ?_ | refine hq_nil ?_ | refine hq_then_normal ?_ | refine hq_seq ?_ | refine hq_region ?_ | refine hq_block ?_ | refine hq_skip ?_ | refine hq_ret ?_ | refine hq_exit ?_ | refine hq_then_ret ?_ | refine hq_then_exit ?_ | refine hq_blk_normal ?_ | refine hq_blk_ret ?_ | refine hq_blk_exit ?_ | refine hq_blk_exit_ne ?_ | refine hq_cond_true ?_ | refine hq_cond_false ?_ | refine st_extract ?_ | refine hq_guard_yes ?_ | refine hq_guard_no ?_ | refine hq_guard_un ?_ | refine st_pick ?_ | refine st_nilCheck ?_ | refine st_not ?_ | refine st_cmp_yes ?_ | refine st_cmp_no ?_ | refine st_add ?_ | refine st_sub ?_ | refine st_rem ?_ | refine st_quo ?_ | refine st_mul ?_ | refine st_mask ?_ | refine st_eqb_same ?_ | refine st_eqb ?_ | refine st_neb ?_ | refine st_rem_k ?_ | refine st_quo_k ?_ | refine st_add_k ?_ | refine st_mul_k ?_ | refine st_neg_k ?_ | refine st_conv ?_ | refine st_eqs_same ?_ | refine st_nes_same ?_ | refine st_eqbs ?_ | refine st_nebs ?_))
  refine st_callrr M rfl (gather_spec A 2 c rs 7 _ hVc hlc hrc (by omega)) fun x w2 M => ?_
  rw [hg] at M ⊢
  dsimp only at M ⊢
  rw [zs_length] at M ⊢
  (repeat (with_reducible first | refine st_move ?_ | refine st_assign ?_ | refine st_len ?_ | refine st_fieldAddr0 ?_ | refine st_fieldAddr ?_ | refine st_load M ?_ | refine st_loadAgg M ?_ | refine st_load_old M ?_ | refine st_loadAgg_old M ?_ | refine st_idx_rowN M ?_ | refine st_idx_row M ?_ | refine st_idx_viewN ?_ | refine st_idx_view ?_ | refine st_ld_row M ?_ | refine st_ld_view M ?_ | refine st_str_row M ?_ | refine st_str_view M ?_ | refine st_slice_lo ?_ | refine st_slice_hi ?_ | refine st_slice_both ?_ | refine st_eq_slice_nil ?_ | refine st_eq_ptr_nil ?_ | refine st_box M fun g w1 M => ?_ | refine st_alloc M fun g w1 M => ?_ | refine st_build_struct ?_ | refine st_build_arr ?_ | refine st_store M fun w1 M => ?_ | refine st_storeAgg0 M fun w1 M => ?_ | refine st_buildSlice M fun g w1 M => ?_ | refine st_app_row M fun A' c' w1 M => ?_ | refine st_app_view M fun A' c' w1 M => ?_ | refine st_app_zeros M fun A' c' w1 M => ?_ | refine st_make M fun g w1 M => ?_ | refine st_arrptr ?_ | refine hq_nil ?_ | refine hq_then_normal ?_ | refine hq_seq ?_ | refine hq_region ?_ | refine hq_block ?_ | refine hq_skip ?_ | refine hq_ret ?_ | refine hq_exit ?_ | refine hq_then_ret ?_ | refine hq_then_exit ?_ | refine hq_blk_normal ?_ | refine hq_blk_ret ?_ | refine hq_blk_exit ?_ | refine hq_blk_exit_ne ?_ | refine hq_cond_true ?_ | refine hq_cond_false ?_ | refine st_extract ?_ | refine hq_guard_yes ?_ | refine hq_guard_no ?_ | refine hq_guard_un ?_ | refine st_pick ?_ | refine st_nilCheck ?_ | refine st_not ?_ | refine st_cmp_yes ?_ | refine st_cmp_no ?_ | refine st_add ?_ | refine st_sub ?_ | refine st_rem ?_ | refine st_quo ?_ | refine st_mul ?_ | refine st_mask ?_ | refine st_eqb_same ?_ | refine st_eqb ?_ | refine st_neb ?_ | refine st_rem_k ?_ | refine st_quo_k ?_ | refine st_add_k ?_ | refine st_mul_k ?_ | refine st_neg_k ?_ | refine st_conv ?_ | refine st_eqs_same ?_ | refine st_nes_same ?_ | refine st_eqbs ?_ | refine st_nebs ?_))
  refine st_callv M rfl (need_spec 45 _ (by omega)) fun w1 M => ?_
  rw [show needN 45 = 2 from rfl]
  (repeat (with_reducible first | refine st_move ?_ | refine st_assign ?_ | refine st_len ?_ | refine st_fieldAddr0 ?_ | refine st_fieldAddr ?_ | refine st_load M ?_ | refine st_loadAgg M ?_ | refine st_load_old M ?_ | refine st_loadAgg_old M ?_ | refine st_idx_rowN M ?_ | refine st_idx_row M ?_ | refine st_idx_viewN ?_ | refine st_idx_view ?_ | refine st_ld_row M ?_ | refine st_ld_view M ?_ | refine st_str_row M ?_ | refine st_str_view M ?_ | refine st_slice_lo ?_ | refine st_slice_hi ?_ | refine st_slice_both ?_ | refine st_eq_slice_nil ?_ | refine st_eq_ptr_nil ?_ | refine st_box M fun g w1 M => ?_ | refine st_alloc M fun g w1 M => ?_ | refine st_build_struct ?_ | refine st_build_arr ?_ | refine st_store M fun w1 M => ?_ | refine st_storeAgg0 M fun w1 M => ?_ | refine st_buildSlice M fun g w1 M => ?_ | refine st_app_row M fun A' c' w1 M => ?_ | refine st_app_view M fun A' c' w1 M => ?_ | refine st_app_zeros M fun A' c' w1 M => ?_ | refine st_make M fun g w1 M => ?_ | refine st_arrptr ?_ | refine hq_nil ?_ | refine hq_then_normal ?_ | refine hq_seq ?_ | refine hq_region ?_ | refine hq_block ?_ | refine hq_skip ?_ | refine hq_ret ?_ | refine hq_exit ?_ | refine hq_then_ret ?_ | refine hq_then_exit ?_ | refine hq_blk_normal ?_ | refine hq_blk_ret ?_ | refine hq_blk_exit ?_ | refine hq_blk_exit_ne ?_ | refine hq_cond_true ?_ | refine hq_cond_false ?_ | refine st_extract ?_ | refine hq_guard_yes ?_ | refine hq_guard_no ?_ | refine hq_guard_un ?_ | refine st_pick ?_ | refine st_nilCheck ?_ | refine st_not ?_ | refine st_cmp_yes ?_ | refine st_cmp_no ?_ | refine st_add ?_ | refine st_sub ?_ | refine st_rem ?_ | refine st_quo ?_ | refine st_mul ?_ | refine st_mask ?_ | refine st_eqb_same ?_ | refine st_eqb ?_ | refine st_neb ?_ | refine st_rem_k ?_ | refine st_quo_k ?_ | refine st_add_k ?_ | refine st_mul_k ?_ | refine st_neg_k ?_ | refine st_conv ?_ | refine st_eqs_same ?_ | refine st_nes_same ?_ | refine st_eqbs ?_ | refine st_nebs ?_))
  exact hq_end1 ⟨rfl, M0.call0 M.dropAll⟩
end Go.Proofs.YtemhbpgjnhdchaaDoor
