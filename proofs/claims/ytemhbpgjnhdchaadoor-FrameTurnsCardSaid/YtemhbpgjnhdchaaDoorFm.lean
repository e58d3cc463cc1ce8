/-
  Law FrameTurns' walk.
-/
import Derived.Test.YtemhbpgjnhdchaaDoorFl
set_option linter.unusedVariables false
namespace Go.Proofs.YtemhbpgjnhdchaaDoor
open Go Go.RowKit Sx

/-- A sector with a byte that is another one: its sum isn't. -/
theorem rd_turned (e a i c : Nat) (d : List UInt8) (hd : d.length ≤ 44) (j : Nat) (x y : UInt8) (hx : (secB e a i c d)[j]? = some x) (hne : y ≠ x) : rdE ((secB e a i c d).set j y) = 4 := by
  have hl := secB_length e a i c d hd
  have hs := sumOf_lt (bodyB e a i c d)
  have hj := (List.getElem?_eq_some_iff.1 hx).1
  have e4 : 256 ^ 4 = 4294967296 := by decide
  obtain ⟨S, hS⟩ : ∃ S, S = leb 4 (sumOf (bodyB e a i c d)) := ⟨_, rfl⟩
  have hSl : S.length = 4 := by rw [hS, leb_length]
  have hnS : num S = sumOf (bodyB e a i c d) := by rw [hS, num_leb, e4]; omega
  have hsec : secB e a i c d = S ++ bodyB e a i c d := by unfold secB; rw [← hS]
  have key : rf ((secB e a i c d).set j y) 0 ≠ sumOf (((secB e a i c d).set j y).drop 4) := by
    intro h
    have h0 : rf ((secB e a i c d).set j y) 0 = num (((secB e a i c d).set j y).take 4) := by
      change num ((((secB e a i c d).set j y).drop 0).take 4) = _
      rw [List.drop_zero]
    rw [h0, hsec] at h
    rw [hsec] at hx
    by_cases h4 : j < 4
    · rw [List.set_append_left _ _ (by omega), List.take_left' (by simp [hSl]), List.drop_left' (by simp [hSl])] at h
      have h5 : S.set j y = S := by
        have := leb_num' (S.set j y) 4 (by simp [hSl])
        rw [← this, h, ← hS]
      have h6 := congrArg (fun l => l[j]?) h5
      simp only [List.getElem?_set_self (show j < S.length by omega)] at h6
      rw [List.getElem?_append_left (by omega)] at hx
      rw [hx] at h6
      injection h6 with h6
      exact hne h6
    · rw [List.set_append_right _ _ (by omega), List.take_left' hSl, List.drop_left' hSl, hnS, hSl] at h
      rw [List.getElem?_append_right (by omega), hSl] at hx
      generalize bodyB e a i c d = Y at *
      obtain ⟨hjb, hxb⟩ := List.getElem?_eq_some_iff.1 hx
      have s1 : Y = Y.take (j - 4) ++ x :: Y.drop (j - 4 + 1) := by rw [← hxb]; simp
      have s2 : Y.set (j - 4) y = Y.take (j - 4) ++ y :: Y.drop (j - 4 + 1) := by rw [List.set_eq_take_append_cons_drop, if_pos hjb]
      rw [s2] at h
      rw [show sumOf Y = sumOf (Y.take (j - 4) ++ x :: Y.drop (j - 4 + 1)) from by rw [← s1]] at h
      exact sumOf_differ _ _ _ _ (fun e => hne e.symm) h
  unfold rdE
  rw [if_neg (by rw [List.length_set]; omega), if_neg (by rw [List.length_set]; omega), if_pos key]
theorem xor_ne (x : UInt8) (q : Nat) (hq : q < 8) : x ^^^ UInt8.ofNat (2 ^ q) ≠ x := by
  have hr : 2 ^ q < 256 := by
    have : 2 ^ q ≤ 2 ^ 7 := Nat.pow_le_pow_right (by omega) (by omega)
    omega
  have h0 : 0 < 2 ^ q := Nat.two_pow_pos _
  intro e
  have e1 := congrArg UInt8.toNat e
  rw [UInt8.toNat_xor, show (UInt8.ofNat (2 ^ q)).toNat = 2 ^ q from by rw [UInt8.toNat_ofNat']; omega] at e1
  have e2 := congrArg (fun z => x.toNat ^^^ z) e1
  simp only [xcancel, Nat.xor_self] at e2
  omega

/-- One sector of the record is another one. -/
theorem set_pre {ep at_ : Int} {b : List UInt8} {i : Nat} (s : List UInt8) : ∀ t, t < i → i < needN b.length → ((cutTo ep at_ b (needN b.length)).set i s)[t]? = some (sct ep at_ b t) := fun t ht hi => by
  rw [List.getElem?_set_ne (by omega)]
  exact cutTo_get ep at_ b _ t (by omega)
theorem set_drop {ep at_ : Int} {b : List UInt8} {i : Nat} (hi : i < needN b.length) (s : List UInt8) : ((cutTo ep at_ b (needN b.length)).set i s).drop i = s :: ((cutTo ep at_ b (needN b.length)).set i s).drop (i + 1) := by
  apply drop_get
  exact List.getElem?_set_self (by simpa [cutTo] using hi)
theorem turns_err {ep at_ : Int} {b : List UInt8} (h : CutOk ep at_ b) {i : Nat} (hi : i < needN b.length) (s : List UInt8) (hs : rdE s ≠ 0) : gatI ((cutTo ep at_ b (needN b.length)).set i s) at_ = ([], 0, 0, rdE s) := by
  obtain ⟨e', c', acc', h1, _⟩ := gatI_pre h hi (fun t ht => set_pre s t ht hi)
  rw [h1, set_drop hi, gat_err hs]
theorem turns_away {ep at_ : Int} {b : List UInt8} (h : CutOk ep at_ b) {i : Nat} (hi : i < needN b.length) (s : List UInt8) (hs : rdE s = 0) (hn : rdN s 2 ≠ at_ + (i : Int)) : gatI ((cutTo ep at_ b (needN b.length)).set i s) at_ = ([], 0, 0, 3) := by
  obtain ⟨e', c', acc', h1, _⟩ := gatI_pre h hi (fun t ht => set_pre s t ht hi)
  rw [h1, set_drop hi, gat_form hs (.inr hn)]
theorem turns_one {ep ep2 at_ : Int} {b b2 : List UInt8} (h : CutOk ep at_ b) (h2 : CutOk ep2 at_ b2) (hl : b2.length = b.length) (h1 : needN b.length = 1) : gatI ((cutTo ep at_ b (needN b.length)).set 0 (sct ep2 at_ b2 0)) at_ = (b2, ep2, 1, 0) := by
  have e : (cutTo ep at_ b (needN b.length)).set 0 (sct ep2 at_ b2 0) = cutL ep2 at_ b2 := by
    rw [(cutL_ok h2).1, hl, h1]
    rfl
  have := gatI_cut h2 []
  rw [List.append_nil, hl, h1] at this
  rw [e, this]
  rfl
theorem turns_many {ep ep2 at_ : Int} {b b2 : List UInt8} (h : CutOk ep at_ b) (h2 : CutOk ep2 at_ b2) (hl : b2.length = b.length) (hne : ep2 ≠ ep) {i : Nat} (hi : i < needN b.length) (h1 : 1 < needN b.length) : gatI ((cutTo ep at_ b (needN b.length)).set i (sct ep2 at_ b2 i)) at_ = ([], 0, 0, 3) := by
  obtain ⟨r1, r2, r3, r4, r5, r6⟩ := rd_sct h2 i (by rw [hl]; exact hi)
  obtain ⟨e', c', acc', g1, g2⟩ := gatI_pre h hi (fun t ht => set_pre (sct ep2 at_ b2 i) t ht hi)
  rw [g1, set_drop hi]
  by_cases hi0 : i = 0
  · subst hi0
    obtain ⟨q1, q2, q3, q4, q5, q6⟩ := rd_sct h 1 h1
    rw [gat_go r1 (.inl rfl) r3 r4, r2, r5, r6, if_neg (by rw [hl]; omega)]
    have : ((cutTo ep at_ b (needN b.length)).set 0 (sct ep2 at_ b2 0)).drop (0 + 1) = sct ep at_ b 1 :: ((cutTo ep at_ b (needN b.length)).set 0 (sct ep2 at_ b2 0)).drop 2 := by
      apply drop_get
      rw [List.getElem?_set_ne (by omega)]
      exact cutTo_get ep at_ b _ 1 h1
    rw [this]
    exact gat_form q1 (.inl ⟨by omega, by rw [q2]; exact fun e => hne e.symm⟩)
  · rcases g2 with g2 | ⟨g2, g3⟩
    · exact absurd g2 hi0
    · subst g2
      exact gat_form r1 (.inl ⟨hi0, by rw [r2]; exact hne⟩)

theorem st_rem_told {P : Program} {Q : Exit → Act → World → Prop} {n : Nat} {l : List (Nat × Value)} {w : World} {ops : Array Oper} {rest : List Oper} {d ty t t' : Nat} {pos : String} {after : Array Edge} {o1 o2 : Operand} {x y : Int} (i : Nat)
    (h : HQ (wpList P ops Q rest) n ((d, .int .i64 (i : Int)) :: l) w) (hx : evq l o1 = some (.int .i64 x) := by with_unfolding_all rfl) (hy : evq l o2 = some (.int .i64 y) := by with_unfolding_all rfl) (he : x % y = (i : Int) := by assumption) (hd : Nat.blt d n = true := by with_unfolding_all rfl) (h0 : 0 ≤ x ∧ 0 < y := by first | omega | decide) :
    HQ (wpList P ops Q (⟨some d, .binOp .rem t o1 o2 t', ty, pos, after, none⟩ :: rest)) n l w :=
  st_rem_k (by rw [he]; exact h) hx hy hd h0
theorem mem_set_ok {rs : List Rw} {i : Nat} {r0 : Rw} {p : Rw → Prop} (h : ∀ r ∈ rs, p r) (h0 : p r0) : ∀ r ∈ rs.set i r0, p r := fun r hr => by
  rcases List.mem_or_eq_of_mem_set hr with h1 | h1
  · exact h r h1
  · rw [h1]; exact h0
set_option maxRecDepth 100000 in
set_option maxHeartbeats 2000000 in
set_option maxHeartbeats 8000000 in
theorem frameTurns_walk (A B : Option Addr) (m c m2 c2 : Nat) (b d : List UInt8) (at_ kk bit : Int) (w : World) (hV : View w A (b.map bv)) (hl : b.length = m) (hmc : m ≤ c) (hV2 : View w B (d.map bv)) (hl2 : d.length = m2) (hmc2 : m2 ≤ c2) :
    Calls Tryd.prog 7 #[.slice A m c, .slice B m2 c2, .int .i64 at_, .int .i64 kk, .int .i64 bit] w (RetV w (.bool true)) := by
  have M := Mem.refl w
  refine enter ?_
  (repeat (with_reducible first | refine st_move ?_ | refine st_assign ?_ | refine st_len ?_ | refine st_fieldAddr0 ?_ | refine st_fieldAddr ?_ | refine st_load M ?_ | refine st_loadAgg M ?_ | refine st_load_old M ?_ | refine st_loadAgg_old M ?_ | refine st_idx_rowN M ?_ | refine st_idx_row M ?_ | refine st_idx_viewN ?_ | refine st_idx_view ?_ | refine st_ld_row M ?_ | refine st_ld_view M ?_ | refine st_str_row M ?_ | refine st_str_view M ?_ | refine st_slice_lo ?_ | refine st_slice_hi ?_ | refine st_slice_both ?_ | refine st_eq_slice_nil ?_ | refine st_eq_ptr_nil ?_ | refine st_box M fun g w1 M => ?_ | refine st_alloc M fun g w1 M => ?_ | refine st_build_struct ?_ | refine st_build_arr ?_ | refine st_store M fun w1 M => ?_ | refine st_storeAgg0 M fun w1 M => ?_ | refine st_buildSlice M fun g w1 M => ?_ | refine st_app_row M fun A' c' w1 M => ?_ | refine st_app_view M fun A' c' w1 M => ?_ | refine st_app_zeros M fun A' c' w1 M => ?_ | refine st_make M fun g w1 M => ?_ | refine st_arrptr ?_ | refine hq_nil ?_ | refine hq_then_normal ?_ | refine hq_seq ?_ | refine hq_region ?_ | refine hq_block ?_ | refine hq_skip ?_ | refine hq_ret ?_ | refine hq_exit ?_ | refine hq_then_ret ?_ | refine hq_then_exit ?_ | refine hq_blk_normal ?_ | refine hq_blk_ret ?_ | refine hq_blk_exit ?_ | refine hq_blk_exit_ne ?_ | refine hq_cond_true ?_ | refine hq_cond_false ?_ | refine st_extract ?_ | refine hq_guard_yes ?_ | refine hq_guard_no ?_ | refine hq_guard_un ?_ | refine st_pick ?_ | refine st_nilCheck ?_ | refine st_not ?_ | refine st_cmp_yes ?_ | refine st_cmp_no ?_ | refine st_add ?_ | refine st_sub ?_ | refine st_rem ?_ | refine st_quo ?_ | refine st_mul ?_ | refine st_mask ?_ | refine st_eqb_same ?_ | refine st_eqb ?_ | refine st_neb ?_ | refine st_rem_k ?_ | refine st_quo_k ?_ | refine st_add_k ?_ | refine st_mul_k ?_ | refine st_neg_k ?_ | refine st_conv ?_ | refine st_eqs_same ?_ | refine st_nes_same ?_ | refine st_eqbs ?_ | refine st_nebs ?_))
  refine st_callv M rfl (awake06 _) fun w1 M => ?_
  by_cases h1000 : 1000 < m
  · (repeat (with_reducible first | refine st_move ?_ | refine st_assign ?_ | refine st_len ?_ | refine st_fieldAddr0 ?_ | refine st_fieldAddr ?_ | refine st_load M ?_ | refine st_loadAgg M ?_ | refine st_load_old M ?_ | refine st_loadAgg_old M ?_ | refine st_idx_rowN M ?_ | refine st_idx_row M ?_ | refine st_idx_viewN ?_ | refine st_idx_view ?_ | refine st_ld_row M ?_ | refine st_ld_view M ?_ | refine st_str_row M ?_ | refine st_str_view M ?_ | refine st_slice_lo ?_ | refine st_slice_hi ?_ | refine st_slice_both ?_ | refine st_eq_slice_nil ?_ | refine st_eq_ptr_nil ?_ | refine st_box M fun g w1 M => ?_ | refine st_alloc M fun g w1 M => ?_ | refine st_build_struct ?_ | refine st_build_arr ?_ | refine st_store M fun w1 M => ?_ | refine st_storeAgg0 M fun w1 M => ?_ | refine st_buildSlice M fun g w1 M => ?_ | refine st_app_row M fun A' c' w1 M => ?_ | refine st_app_view M fun A' c' w1 M => ?_ | refine st_app_zeros M fun A' c' w1 M => ?_ | refine st_make M fun g w1 M => ?_ | refine st_arrptr ?_ | refine hq_nil ?_ | refine hq_then_normal ?_ | refine hq_seq ?_ | refine hq_region ?_ | refine hq_block ?_ | refine hq_skip ?_ | refine hq_ret ?_ | refine hq_exit ?_ | refine hq_then_ret ?_ | refine hq_then_exit ?_ | refine hq_blk_normal ?_ | refine hq_blk_ret ?_ | refine hq_blk_exit ?_ | refine hq_blk_exit_ne ?_ | refine hq_cond_true ?_ | refine hq_cond_false ?_ | refine st_extract ?_ | refine hq_guard_yes ?_ | refine hq_guard_no ?_ | refine hq_guard_un ?_ | refine st_pick ?_ | refine st_nilCheck ?_ | refine st_not ?_ | refine st_cmp_yes ?_ | refine st_cmp_no ?_ | refine st_add ?_ | refine st_sub ?_ | refine st_rem ?_ | refine st_quo ?_ | refine st_mul ?_ | refine st_mask ?_ | refine st_eqb_same ?_ | refine st_eqb ?_ | refine st_neb ?_ | refine st_rem_k ?_ | refine st_quo_k ?_ | refine st_add_k ?_ | refine st_mul_k ?_ | refine st_neg_k ?_ | refine st_conv ?_ | refine st_eqs_same ?_ | refine st_nes_same ?_ | refine st_eqbs ?_ | refine st_nebs ?_))
    exact hq_end1 ⟨rfl, M.dropAll⟩
  · by_cases h2 : m2 = m
    · obtain rfl := h2
      by_cases hbd : b = d
      · (repeat (with_reducible first | refine st_move ?_ | refine st_assign ?_ | refine st_len ?_ | refine st_fieldAddr0 ?_ | refine st_fieldAddr ?_ | refine st_load M ?_ | refine st_loadAgg M ?_ | refine st_load_old M ?_ | refine st_loadAgg_old M ?_ | refine st_idx_rowN M ?_ | refine st_idx_row M ?_ | refine st_idx_viewN ?_ | refine st_idx_view ?_ | refine st_ld_row M ?_ | refine st_ld_view M ?_ | refine st_str_row M ?_ | refine st_str_view M ?_ | refine st_slice_lo ?_ | refine st_slice_hi ?_ | refine st_slice_both ?_ | refine st_eq_slice_nil ?_ | refine st_eq_ptr_nil ?_ | refine st_box M fun g w1 M => ?_ | refine st_alloc M fun g w1 M => ?_ | refine st_build_struct ?_ | refine st_build_arr ?_ | refine st_store M fun w1 M => ?_ | refine st_storeAgg0 M fun w1 M => ?_ | refine st_buildSlice M fun g w1 M => ?_ | refine st_app_row M fun A' c' w1 M => ?_ | refine st_app_view M fun A' c' w1 M => ?_ | refine st_app_zeros M fun A' c' w1 M => ?_ | refine st_make M fun g w1 M => ?_ | refine st_arrptr ?_ | refine hq_nil ?_ | refine hq_then_normal ?_ | refine hq_seq ?_ | refine hq_region ?_ | refine hq_block ?_ | refine hq_skip ?_ | refine hq_ret ?_ | refine hq_exit ?_ | refine hq_then_ret ?_ | refine hq_then_exit ?_ | refine hq_blk_normal ?_ | refine hq_blk_ret ?_ | refine hq_blk_exit ?_ | refine hq_blk_exit_ne ?_ | refine hq_cond_true ?_ | refine hq_cond_false ?_ | refine st_extract ?_ | refine hq_guard_yes ?_ | refine hq_guard_no ?_ | refine hq_guard_un ?_ | refine st_pick ?_ | refine st_nilCheck ?_ | refine st_not ?_ | refine st_cmp_yes ?_ | refine st_cmp_no ?_ | refine st_add ?_ | refine st_sub ?_ | refine st_rem ?_ | refine st_quo ?_ | refine st_mul ?_ | refine st_mask ?_ | refine st_eqb_same ?_ | refine st_eqb ?_ | refine st_neb ?_ | refine st_rem_k ?_ | refine st_quo_k ?_ | refine st_add_k ?_ | refine st_mul_k ?_ | refine st_neg_k ?_ | refine st_conv ?_ | refine st_eqs_same ?_ | refine st_nes_same ?_ | refine st_eqbs ?_ | refine st_nebs ?_))
        rw [show (b == d) = true from by rw [beq_iff_eq]; exact hbd]
        (repeat (with_reducible first | refine st_move ?_ | refine st_assign ?_ | refine st_len ?_ | refine st_fieldAddr0 ?_ | refine st_fieldAddr ?_ | refine st_load M ?_ | refine st_loadAgg M ?_ | refine st_load_old M ?_ | refine st_loadAgg_old M ?_ | refine st_idx_rowN M ?_ | refine st_idx_row M ?_ | refine st_idx_viewN ?_ | refine st_idx_view ?_ | refine st_ld_row M ?_ | refine st_ld_view M ?_ | refine st_str_row M ?_ | refine st_str_view M ?_ | refine st_slice_lo ?_ | refine st_slice_hi ?_ | refine st_slice_both ?_ | refine st_eq_slice_nil ?_ | refine st_eq_ptr_nil ?_ | refine st_box M fun g w1 M => ?_ | refine st_alloc M fun g w1 M => ?_ | refine st_build_struct ?_ | refine st_build_arr ?_ | refine st_store M fun w1 M => ?_ | refine st_storeAgg0 M fun w1 M => ?_ | refine st_buildSlice M fun g w1 M => ?_ | refine st_app_row M fun A' c' w1 M => ?_ | refine st_app_view M fun A' c' w1 M => ?_ | refine st_app_zeros M fun A' c' w1 M => ?_ | refine st_make M fun g w1 M => ?_ | refine st_arrptr ?_ | refine hq_nil ?_ | refine hq_then_normal ?_ | refine hq_seq ?_ | refine hq_region ?_ | refine hq_block ?_ | refine hq_skip ?_ | refine hq_ret ?_ | refine hq_exit ?_ | refine hq_then_ret ?_ | refine hq_then_exit ?_ | refine hq_blk_normal ?_ | refine hq_blk_ret ?_ | refine hq_blk_exit ?_ | refine hq_blk_exit_ne ?_ | refine hq_cond_true ?_ | refine hq_cond_false ?_ | refine st_extract ?_ | refine hq_guard_yes ?_ | refine hq_guard_no ?_ | refine hq_guard_un ?_ | refine st_pick ?_ | refine st_nilCheck ?_ | refine st_not ?_ | refine st_cmp_yes ?_ | refine st_cmp_no ?_ | refine st_add ?_ | refine st_sub ?_ | refine st_rem ?_ | refine st_quo ?_ | refine st_mul ?_ | refine st_mask ?_ | refine st_eqb_same ?_ | refine st_eqb ?_ | refine st_neb ?_ | refine st_rem_k ?_ | refine st_quo_k ?_ | refine st_add_k ?_ | refine st_mul_k ?_ | refine st_neg_k ?_ | refine st_conv ?_ | refine st_eqs_same ?_ | refine st_nes_same ?_ | refine st_eqbs ?_ | refine st_nebs ?_))
        exact hq_end1 ⟨rfl, M.dropAll⟩
      · (repeat (with_reducible first | refine st_move ?_ | refine st_assign ?_ | refine st_len ?_ | refine st_fieldAddr0 ?_ | refine st_fieldAddr ?_ | refine st_load M ?_ | refine st_loadAgg M ?_ | refine st_load_old M ?_ | refine st_loadAgg_old M ?_ | refine st_idx_rowN M ?_ | refine st_idx_row M ?_ | refine st_idx_viewN ?_ | refine st_idx_view ?_ | refine st_ld_row M ?_ | refine st_ld_view M ?_ | refine st_str_row M ?_ | refine st_str_view M ?_ | refine st_slice_lo ?_ | refine st_slice_hi ?_ | refine st_slice_both ?_ | refine st_eq_slice_nil ?_ | refine st_eq_ptr_nil ?_ | refine st_box M fun g w1 M => ?_ | refine st_alloc M fun g w1 M => ?_ | refine st_build_struct ?_ | refine st_build_arr ?_ | refine st_store M fun w1 M => ?_ | refine st_storeAgg0 M fun w1 M => ?_ | refine st_buildSlice M fun g w1 M => ?_ | refine st_app_row M fun A' c' w1 M => ?_ | refine st_app_view M fun A' c' w1 M => ?_ | refine st_app_zeros M fun A' c' w1 M => ?_ | refine st_make M fun g w1 M => ?_ | refine st_arrptr ?_ | refine hq_nil ?_ | refine hq_then_normal ?_ | refine hq_seq ?_ | refine hq_region ?_ | refine hq_block ?_ | refine hq_skip ?_ | refine hq_ret ?_ | refine hq_exit ?_ | refine hq_then_ret ?_ | refine hq_then_exit ?_ | refine hq_blk_normal ?_ | refine hq_blk_ret ?_ | refine hq_blk_exit ?_ | refine hq_blk_exit_ne ?_ | refine hq_cond_true ?_ | refine hq_cond_false ?_ | refine st_extract ?_ | refine hq_guard_yes ?_ | refine hq_guard_no ?_ | refine hq_guard_un ?_ | refine st_pick ?_ | refine st_nilCheck ?_ | refine st_not ?_ | refine st_cmp_yes ?_ | refine st_cmp_no ?_ | refine st_add ?_ | refine st_sub ?_ | refine st_rem ?_ | refine st_quo ?_ | refine st_mul ?_ | refine st_mask ?_ | refine st_eqb_same ?_ | refine st_eqb ?_ | refine st_neb ?_ | refine st_rem_k ?_ | refine st_quo_k ?_ | refine st_add_k ?_ | refine st_mul_k ?_ | refine st_neg_k ?_ | refine st_conv ?_ | refine st_eqs_same ?_ | refine st_nes_same ?_ | refine st_eqbs ?_ | refine st_nebs ?_))
        rw [show (b == d) = false from by rw [beq_eq_false_iff_ne]; exact hbd]
        (repeat (with_reducible first | refine st_move ?_ | refine st_assign ?_ | refine st_len ?_ | refine st_fieldAddr0 ?_ | refine st_fieldAddr ?_ | refine st_load M ?_ | refine st_loadAgg M ?_ | refine st_load_old M ?_ | refine st_loadAgg_old M ?_ | refine st_idx_rowN M ?_ | refine st_idx_row M ?_ | refine st_idx_viewN ?_ | refine st_idx_view ?_ | refine st_ld_row M ?_ | refine st_ld_view M ?_ | refine st_str_row M ?_ | refine st_str_view M ?_ | refine st_slice_lo ?_ | refine st_slice_hi ?_ | refine st_slice_both ?_ | refine st_eq_slice_nil ?_ | refine st_eq_ptr_nil ?_ | refine st_box M fun g w1 M => ?_ | refine st_alloc M fun g w1 M => ?_ | refine st_build_struct ?_ | refine st_build_arr ?_ | refine st_store M fun w1 M => ?_ | refine st_storeAgg0 M fun w1 M => ?_ | refine st_buildSlice M fun g w1 M => ?_ | refine st_app_row M fun A' c' w1 M => ?_ | refine st_app_view M fun A' c' w1 M => ?_ | refine st_app_zeros M fun A' c' w1 M => ?_ | refine st_make M fun g w1 M => ?_ | refine st_arrptr ?_ | refine hq_nil ?_ | refine hq_then_normal ?_ | refine hq_seq ?_ | refine hq_region ?_ | refine hq_block ?_ | refine hq_skip ?_ | refine hq_ret ?_ | refine hq_exit ?_ | refine hq_then_ret ?_ | refine hq_then_exit ?_ | refine hq_blk_normal ?_ | refine hq_blk_ret ?_ | refine hq_blk_exit ?_ | refine hq_blk_exit_ne ?_ | refine hq_cond_true ?_ | refine hq_cond_false ?_ | refine st_extract ?_ | refine hq_guard_yes ?_ | refine hq_guard_no ?_ | refine hq_guard_un ?_ | refine st_pick ?_ | refine st_nilCheck ?_ | refine st_not ?_ | refine st_cmp_yes ?_ | refine st_cmp_no ?_ | refine st_add ?_ | refine st_sub ?_ | refine st_rem ?_ | refine st_quo ?_ | refine st_mul ?_ | refine st_mask ?_ | refine st_eqb_same ?_ | refine st_eqb ?_ | refine st_neb ?_ | refine st_rem_k ?_ | refine st_quo_k ?_ | refine st_add_k ?_ | refine st_mul_k ?_ | refine st_neg_k ?_ | refine st_conv ?_ | refine st_eqs_same ?_ | refine st_nes_same ?_ | refine st_eqbs ?_ | refine st_nebs ?_))
        obtain ⟨a, ha⟩ : ∃ a, a = at_ % 16777216 := ⟨_, rfl⟩
        have ba : 0 ≤ a ∧ a ≤ 16777215 := by omega
        rw [← ha]
        clear ha
        obtain ⟨f1, f2, f3⟩ := needN_facts b.length
        rw [hl] at f1 f2 f3
        have hokL : CutOk 5 a b := ⟨by rw [hl]; omega, by omega, ba.1, by rw [hl]; omega⟩
        have hokO : CutOk 4 a d := ⟨by rw [hl2]; omega, by omega, ba.1, by rw [hl2]; omega⟩
        have hokA : CutOk 5 (a + 64) d := ⟨by rw [hl2]; omega, by omega, by omega, by rw [hl2]; omega⟩
        refine st_call rfl (cut_spec 5 a A m2 c b _ (M.view hV) hl hmc (by omega)) ?_
        rintro _ wBL ⟨ALL, cLL, rsL, rfl, hrsL, N⟩
        refine ⟨_, rfl, ?_⟩
        obtain ⟨l1, l2, l3⟩ := cutL_ok hokL
        rw [l2] at N ⊢
        rw [l3]
        have M0L := M.dropAll.call0 (Mem.dropAll N)
        obtain ⟨hVcL, hlcL, hrcL⟩ := cut_rows N (by rw [hrsL]; exact cutL_mem)
        rw [l1] at hrsL
        clear N M l1 l2 l3
        have M := Mem.refl wBL
        have hV2 := M0L.view hV2
        rw [hl] at hlcL hrsL ⊢
        (repeat (with_reducible first | refine st_move ?_ | refine st_assign ?_ | refine st_len ?_ | refine st_fieldAddr0 ?_ | refine st_fieldAddr ?_ | refine st_load M ?_ | refine st_loadAgg M ?_ | refine st_load_old M ?_ | refine st_loadAgg_old M ?_ | refine st_idx_rowN M ?_ | refine st_idx_row M ?_ | refine st_idx_viewN ?_ | refine st_idx_view ?_ | refine st_ld_row M ?_ | refine st_ld_view M ?_ | refine st_str_row M ?_ | refine st_str_view M ?_ | refine st_slice_lo ?_ | refine st_slice_hi ?_ | refine st_slice_both ?_ | refine st_eq_slice_nil ?_ | refine st_eq_ptr_nil ?_ | refine st_box M fun g w1 M => ?_ | refine st_alloc M fun g w1 M => ?_ | refine st_build_struct ?_ | refine st_build_arr ?_ | refine st_store M fun w1 M => ?_ | refine st_storeAgg0 M fun w1 M => ?_ | refine st_buildSlice M fun g w1 M => ?_ | refine st_app_row M fun A' c' w1 M => ?_ | refine st_app_view M fun A' c' w1 M => ?_ | refine st_app_zeros M fun A' c' w1 M => ?_ | refine st_make M fun g w1 M => ?_ | refine st_arrptr ?_ | refine hq_nil ?_ | refine hq_then_normal ?_ | refine hq_seq ?_ | refine hq_region ?_ | refine hq_block ?_ | refine hq_skip ?_ | refine hq_ret ?_ | refine hq_exit ?_ | refine hq_then_ret ?_ | refine hq_then_exit ?_ | refine hq_blk_normal ?_ | refine hq_blk_ret ?_ | refine hq_blk_exit ?_ | refine hq_blk_exit_ne ?_ | refine hq_cond_true ?_ | refine hq_cond_false ?_ | refine st_extract ?_ | refine hq_guard_yes ?_ | refine hq_guard_no ?_ | refine hq_guard_un ?_ | refine st_pick ?_ | refine st_nilCheck ?_ | refine st_not ?_ | refine st_cmp_yes ?_ | refine st_cmp_no ?_ | refine st_add ?_ | refine st_sub ?_ | refine st_rem ?_ | refine st_quo ?_ | refine st_mul ?_ | refine st_mask ?_ | refine st_eqb_same ?_ | refine st_eqb ?_ | refine st_neb ?_ | refine st_rem_k ?_ | refine st_quo_k ?_ | refine st_add_k ?_ | refine st_mul_k ?_ | refine st_neg_k ?_ | refine st_conv ?_ | refine st_eqs_same ?_ | refine st_nes_same ?_ | refine st_eqbs ?_ | refine st_nebs ?_))
        refine st_call rfl (cut_spec 4 a B m2 c2 d _ (M.view hV2) hl2 hmc2 (by omega)) ?_
        rintro _ wBO ⟨ALO, cLO, rsO, rfl, hrsO, N⟩
        refine ⟨_, rfl, ?_⟩
        obtain ⟨l1, l2, l3⟩ := cutL_ok hokO
        rw [l2] at N ⊢
        rw [l3]
        have M0O := M.dropAll.call0 (Mem.dropAll N)
        obtain ⟨hVcO, hlcO, hrcO⟩ := cut_rows N (by rw [hrsO]; exact cutL_mem)
        rw [l1] at hrsO
        clear N M l1 l2 l3
        have M := Mem.refl wBO
        have hV2 := M0O.view hV2
        have hVcL := M0O.view hVcL
        have hrcL : ∀ r ∈ rsL, r.ok wBO ∧ r.n ≤ 1000000 := fun r hr => ⟨Rw.ok_ext M0O (hrcL r hr).1, (hrcL r hr).2⟩
        rw [hl2] at hlcO hrsO ⊢
        (repeat (with_reducible first | refine st_move ?_ | refine st_assign ?_ | refine st_len ?_ | refine st_fieldAddr0 ?_ | refine st_fieldAddr ?_ | refine st_load M ?_ | refine st_loadAgg M ?_ | refine st_load_old M ?_ | refine st_loadAgg_old M ?_ | refine st_idx_rowN M ?_ | refine st_idx_row M ?_ | refine st_idx_viewN ?_ | refine st_idx_view ?_ | refine st_ld_row M ?_ | refine st_ld_view M ?_ | refine st_str_row M ?_ | refine st_str_view M ?_ | refine st_slice_lo ?_ | refine st_slice_hi ?_ | refine st_slice_both ?_ | refine st_eq_slice_nil ?_ | refine st_eq_ptr_nil ?_ | refine st_box M fun g w1 M => ?_ | refine st_alloc M fun g w1 M => ?_ | refine st_build_struct ?_ | refine st_build_arr ?_ | refine st_store M fun w1 M => ?_ | refine st_storeAgg0 M fun w1 M => ?_ | refine st_buildSlice M fun g w1 M => ?_ | refine st_app_row M fun A' c' w1 M => ?_ | refine st_app_view M fun A' c' w1 M => ?_ | refine st_app_zeros M fun A' c' w1 M => ?_ | refine st_make M fun g w1 M => ?_ | refine st_arrptr ?_ | refine hq_nil ?_ | refine hq_then_normal ?_ | refine hq_seq ?_ | refine hq_region ?_ | refine hq_block ?_ | refine hq_skip ?_ | refine hq_ret ?_ | refine hq_exit ?_ | refine hq_then_ret ?_ | refine hq_then_exit ?_ | refine hq_blk_normal ?_ | refine hq_blk_ret ?_ | refine hq_blk_exit ?_ | refine hq_blk_exit_ne ?_ | refine hq_cond_true ?_ | refine hq_cond_false ?_ | refine st_extract ?_ | refine hq_guard_yes ?_ | refine hq_guard_no ?_ | refine hq_guard_un ?_ | refine st_pick ?_ | refine st_nilCheck ?_ | refine st_not ?_ | refine st_cmp_yes ?_ | refine st_cmp_no ?_ | refine st_add ?_ | refine st_sub ?_ | refine st_rem ?_ | refine st_quo ?_ | refine st_mul ?_ | refine st_mask ?_ | refine st_eqb_same ?_ | refine st_eqb ?_ | refine st_neb ?_ | refine st_rem_k ?_ | refine st_quo_k ?_ | refine st_add_k ?_ | refine st_mul_k ?_ | refine st_neg_k ?_ | refine st_conv ?_ | refine st_eqs_same ?_ | refine st_nes_same ?_ | refine st_eqbs ?_ | refine st_nebs ?_))
        refine st_call rfl (cut_spec 5 (a + 64) B m2 c2 d _ (M.view hV2) hl2 hmc2 (by omega)) ?_
        rintro _ wBA ⟨ALA, cLA, rsA, rfl, hrsA, N⟩
        refine ⟨_, rfl, ?_⟩
        obtain ⟨l1, l2, l3⟩ := cutL_ok hokA
        rw [l2] at N ⊢
        rw [l3]
        have M0A := M.dropAll.call0 (Mem.dropAll N)
        obtain ⟨hVcA, hlcA, hrcA⟩ := cut_rows N (by rw [hrsA]; exact cutL_mem)
        rw [l1] at hrsA
        clear N M l1 l2 l3
        have M := Mem.refl wBA
        have hVcL := M0A.view hVcL
        have hVcO := M0A.view hVcO
        have hrcL : ∀ r ∈ rsL, r.ok wBA ∧ r.n ≤ 1000000 := fun r hr => ⟨Rw.ok_ext M0A (hrcL r hr).1, (hrcL r hr).2⟩
        have hrcO : ∀ r ∈ rsO, r.ok wBA ∧ r.n ≤ 1000000 := fun r hr => ⟨Rw.ok_ext M0A (hrcO r hr).1, (hrcO r hr).2⟩
        rw [hl2] at hlcA hrsA ⊢
        obtain ⟨i, hi⟩ : ∃ i : Nat, kk % 65536 % (needN m2 : Int) = (i : Int) := ⟨(kk % 65536 % (needN m2 : Int)).toNat, by have := Int.emod_nonneg (kk % 65536) (show (needN m2 : Int) ≠ 0 by omega); omega⟩
        have hin : i < needN m2 := by have := Int.emod_lt_of_pos (kk % 65536) (show 0 < (needN m2 : Int) by omega); omega
        obtain ⟨q, hq⟩ : ∃ q : Nat, bit % 65536 % 512 = (q : Int) := ⟨(bit % 65536 % 512).toNat, by omega⟩
        have hq5 : q < 512 := by omega
        obtain ⟨hga, hba, hma⟩ := rs_get (rs := rsA) (k := i) (s := sct 5 (a + 64) d i) (by rw [hrsA]; exact cutTo_get _ _ d _ i hin)
        obtain ⟨hgo, hbo, hmo⟩ := rs_get (rs := rsO) (k := i) (s := sct 4 a d i) (by rw [hrsO]; exact cutTo_get _ _ d _ i hin)
        obtain ⟨hgl, hbl, hml⟩ := rs_get (rs := rsL) (k := i) (s := sct 5 a b i) (by rw [hrsL]; exact cutTo_get _ _ b _ i hin)
        have hroa := hrcA _ hma
        have hroo := hrcO _ hmo
        have hrol := hrcL _ hml
        clear hma hmo hml hga hgo hgl
        (repeat (with_reducible first | (refine st_rem_told i ?_) | (refine st_rem_told q ?_) | (refine st_app_view M (ys := rsL.map Rw.v) (fun A' c' w1 M => ?_) (hV := hVcL) (h1 := rw_one rsL) (hl := by rw [List.length_map]; omega)) | refine st_move ?_ | refine st_assign ?_ | refine st_len ?_ | refine st_fieldAddr0 ?_ | refine st_fieldAddr ?_ | refine st_load M ?_ | refine st_loadAgg M ?_ | refine st_load_old M ?_ | refine st_loadAgg_old M ?_ | refine st_idx_rowN M ?_ | refine st_idx_row M ?_ | refine st_idx_viewN ?_ | refine st_idx_view ?_ | refine st_ld_row M ?_ | refine st_ld_view M ?_ | refine st_str_row M ?_ | refine st_str_view M ?_ | refine st_slice_lo ?_ | refine st_slice_hi ?_ | refine st_slice_both ?_ | refine st_eq_slice_nil ?_ | refine st_eq_ptr_nil ?_ | refine st_box M fun g w1 M => ?_ | refine st_alloc M fun g w1 M => ?_ | refine st_build_struct ?_ | refine st_build_arr ?_ | refine st_store M fun w1 M => ?_ | refine st_storeAgg0 M fun w1 M => ?_ | refine st_buildSlice M fun g w1 M => ?_ | refine st_app_row M fun A' c' w1 M => ?_ | refine st_app_view M fun A' c' w1 M => ?_ | refine st_app_zeros M fun A' c' w1 M => ?_ | refine st_make M fun g w1 M => ?_ | refine st_arrptr ?_ | refine hq_nil ?_ | refine hq_then_normal ?_ | refine hq_seq ?_ | refine hq_region ?_ | refine hq_block ?_ | refine hq_skip ?_ | refine hq_ret ?_ | refine hq_exit ?_ | refine hq_then_ret ?_ | refine hq_then_exit ?_ | refine hq_blk_normal ?_ | refine hq_blk_ret ?_ | refine hq_blk_exit ?_ | refine hq_blk_exit_ne ?_ | refine hq_cond_true ?_ | refine hq_cond_false ?_ | refine st_extract ?_ | refine hq_guard_yes ?_ | refine hq_guard_no ?_ | refine hq_guard_un ?_ | refine st_pick ?_ | refine st_nilCheck ?_ | refine st_not ?_ | refine st_cmp_yes ?_ | refine st_cmp_no ?_ | refine st_add ?_ | refine st_sub ?_ | refine st_rem ?_ | refine st_quo ?_ | refine st_mul ?_ | refine st_mask ?_ | refine st_eqb_same ?_ | refine st_eqb ?_ | refine st_neb ?_ | refine st_rem_k ?_ | refine st_quo_k ?_ | refine st_add_k ?_ | refine st_mul_k ?_ | refine st_neg_k ?_ | refine st_conv ?_ | refine st_eqs_same ?_ | refine st_nes_same ?_ | refine st_eqbs ?_ | refine st_nebs ?_))
        obtain ⟨X, hX⟩ : ∃ X, X = A' := ⟨_, rfl⟩
        obtain ⟨cX, hcX⟩ : ∃ cX, cX = c' := ⟨_, rfl⟩
        rw [← hX, ← hcX] at M ⊢
        clear hX hcX
        have en : 0 + needN m2 = needN m2 := Nat.zero_add _
        rw [en] at M ⊢
        have M : Mem wBA [] [.row X (needN m2) cX (rsL.map Rw.v) 22 1] w1 := M
        have hlX : (rsL.map Rw.v).length = needN m2 := by rw [List.length_map]; exact hlcL
        -- the sector of another place
        obtain ⟨ra, hra⟩ : ∃ ra, ra = rsA.getD i default := ⟨_, rfl⟩
        rw [← hra] at hba hroa ⊢
        clear hra
        refine st_store_row M (fun w1 M => ?_) (hj := by omega)
        have M : Mem wBA [] [.row X (needN m2) cX ((rsL.set i ra).map Rw.v) 22 1] w1 := by rw [List.map_set]; exact M
        have hlS : ∀ r0, (rsL.set i r0).length = needN m2 := fun r0 => by rw [List.length_set]; exact hlcL
        obtain ⟨ra1, ra2, ra3, ra4, ra5, ra6⟩ := rd_sct hokA i (by rw [hl2]; exact hin)
        have hinb : i < needN b.length := by rw [hl]; exact hin
        have g1 : gatI ((rsL.set i ra).map (·.bs)) a = ([], 0, 0, 3) := by
          have := turns_away hokL hinb (sct 5 (a + 64) d i) ra1 (by rw [ra3]; omega)
          rw [List.map_set, hrsL, hba, ← hl]
          exact this
        (repeat (with_reducible first | refine st_move ?_ | refine st_assign ?_ | refine st_len ?_ | refine st_fieldAddr0 ?_ | refine st_fieldAddr ?_ | refine st_load M ?_ | refine st_loadAgg M ?_ | refine st_load_old M ?_ | refine st_loadAgg_old M ?_ | refine st_idx_rowN M ?_ | refine st_idx_row M ?_ | refine st_idx_viewN ?_ | refine st_idx_view ?_ | refine st_ld_row M ?_ | refine st_ld_view M ?_ | refine st_str_row M ?_ | refine st_str_view M ?_ | refine st_slice_lo ?_ | refine st_slice_hi ?_ | refine st_slice_both ?_ | refine st_eq_slice_nil ?_ | refine st_eq_ptr_nil ?_ | refine st_box M fun g w1 M => ?_ | refine st_alloc M fun g w1 M => ?_ | refine st_build_struct ?_ | refine st_build_arr ?_ | refine st_store M fun w1 M => ?_ | refine st_storeAgg0 M fun w1 M => ?_ | refine st_buildSlice M fun g w1 M => ?_ | refine st_app_row M fun A' c' w1 M => ?_ | refine st_app_view M fun A' c' w1 M => ?_ | refine st_app_zeros M fun A' c' w1 M => ?_ | refine st_make M fun g w1 M => ?_ | refine st_arrptr ?_ | refine hq_nil ?_ | refine hq_then_normal ?_ | refine hq_seq ?_ | refine hq_region ?_ | refine hq_block ?_ | refine hq_skip ?_ | refine hq_ret ?_ | refine hq_exit ?_ | refine hq_then_ret ?_ | refine hq_then_exit ?_ | refine hq_blk_normal ?_ | refine hq_blk_ret ?_ | refine hq_blk_exit ?_ | refine hq_blk_exit_ne ?_ | refine hq_cond_true ?_ | refine hq_cond_false ?_ | refine st_extract ?_ | refine hq_guard_yes ?_ | refine hq_guard_no ?_ | refine hq_guard_un ?_ | refine st_pick ?_ | refine st_nilCheck ?_ | refine st_not ?_ | refine st_cmp_yes ?_ | refine st_cmp_no ?_ | refine st_add ?_ | refine st_sub ?_ | refine st_rem ?_ | refine st_quo ?_ | refine st_mul ?_ | refine st_mask ?_ | refine st_eqb_same ?_ | refine st_eqb ?_ | refine st_neb ?_ | refine st_rem_k ?_ | refine st_quo_k ?_ | refine st_add_k ?_ | refine st_mul_k ?_ | refine st_neg_k ?_ | refine st_conv ?_ | refine st_eqs_same ?_ | refine st_nes_same ?_ | refine st_eqbs ?_ | refine st_nebs ?_))
        refine st_callrr M rfl (gather_spec X (needN m2) cX (rsL.set i ra) a _ (M.viewRow X (needN m2) cX) (hlS ra) (mem_set_ok (fun r hr => ⟨Rw.ok_ext M (hrcL r hr).1, (hrcL r hr).2⟩) ⟨Rw.ok_ext M hroa.1, hroa.2⟩) (by omega)) fun x w2 M => ?_
        rw [g1] at M ⊢
        dsimp only at M ⊢
        -- a bit turned
        obtain ⟨rl, hrl⟩ : ∃ rl, rl = rsL.getD i default := ⟨_, rfl⟩
        rw [← hrl] at hbl hrol
        have hrv := hrol.1.view
        have hrlen := hrol.1.len
        have h64 : rl.bs.length = 64 := by rw [hbl]; exact sct_length i
        have hn64 : rl.n = 64 := by omega
        (repeat (with_reducible first | refine st_move ?_ | refine st_assign ?_ | refine st_len ?_ | refine st_fieldAddr0 ?_ | refine st_fieldAddr ?_ | refine st_load M ?_ | refine st_loadAgg M ?_ | refine st_load_old M ?_ | refine st_loadAgg_old M ?_ | refine st_idx_rowN M ?_ | refine st_idx_row M ?_ | refine st_idx_viewN ?_ | refine st_idx_view ?_ | refine st_ld_row M ?_ | refine st_ld_view M ?_ | refine st_str_row M ?_ | refine st_str_view M ?_ | refine st_slice_lo ?_ | refine st_slice_hi ?_ | refine st_slice_both ?_ | refine st_eq_slice_nil ?_ | refine st_eq_ptr_nil ?_ | refine st_box M fun g w1 M => ?_ | refine st_alloc M fun g w1 M => ?_ | refine st_build_struct ?_ | refine st_build_arr ?_ | refine st_store M fun w1 M => ?_ | refine st_storeAgg0 M fun w1 M => ?_ | refine st_buildSlice M fun g w1 M => ?_ | refine st_app_row M fun A' c' w1 M => ?_ | refine st_app_view M fun A' c' w1 M => ?_ | refine st_app_zeros M fun A' c' w1 M => ?_ | refine st_make M fun g w1 M => ?_ | refine st_arrptr ?_ | refine hq_nil ?_ | refine hq_then_normal ?_ | refine hq_seq ?_ | refine hq_region ?_ | refine hq_block ?_ | refine hq_skip ?_ | refine hq_ret ?_ | refine hq_exit ?_ | refine hq_then_ret ?_ | refine hq_then_exit ?_ | refine hq_blk_normal ?_ | refine hq_blk_ret ?_ | refine hq_blk_exit ?_ | refine hq_blk_exit_ne ?_ | refine hq_cond_true ?_ | refine hq_cond_false ?_ | refine st_extract ?_ | refine hq_guard_yes ?_ | refine hq_guard_no ?_ | refine hq_guard_un ?_ | refine st_pick ?_ | refine st_nilCheck ?_ | refine st_not ?_ | refine st_cmp_yes ?_ | refine st_cmp_no ?_ | refine st_add ?_ | refine st_sub ?_ | refine st_rem ?_ | refine st_quo ?_ | refine st_mul ?_ | refine st_mask ?_ | refine st_eqb_same ?_ | refine st_eqb ?_ | refine st_neb ?_ | refine st_rem_k ?_ | refine st_quo_k ?_ | refine st_add_k ?_ | refine st_mul_k ?_ | refine st_neg_k ?_ | refine st_conv ?_ | refine st_eqs_same ?_ | refine st_nes_same ?_ | refine st_eqbs ?_ | refine st_nebs ?_))
        rw [← hrl]
        clear hrl
        refine st_app_view M (ys := rl.bs.map bv) (fun As cs w1 M => ?_) (hV := hrv) (hl := by rw [List.length_map]; omega)
        have e64 : 0 + rl.n = 64 := by omega
        rw [e64] at M ⊢
        rw [hbl] at M
        have M : Mem wBA [] [.row As 64 cs ((sct 5 a b i).map bv) 5 1, .row X (needN m2) cX ((rsL.set i ra).map Rw.v) 22 1] w1 := M.pick [.row As 64 cs (flat [] ++ (sct 5 a b i).map bv) 5 1, .row X (needN m2) cX ((rsL.set i ra).map Rw.v) 22 1]
        obtain ⟨S, hS⟩ : ∃ S, S = sct 5 a b i := ⟨_, rfl⟩
        have hsl : S.length = 64 := by rw [hS]; exact sct_length i
        rw [← hS] at M
        have hj : q / 8 < 64 := by omega
        obtain ⟨p, hp⟩ : ∃ p, p = 2 ^ (q % 8) := ⟨_, rfl⟩
        have hrp : p < 256 := by
          have : 2 ^ (q % 8) ≤ 2 ^ 7 := Nat.pow_le_pow_right (by omega) (by omega)
          omega
        have es : IntKind.u8.wrap ((1 : Int) * 2 ^ (min (Int.toNat ((q : Int) % 8)) IntKind.u8.bits)) = (p : Int) := by
          rw [show min (Int.toNat ((q : Int) % 8)) IntKind.u8.bits = q % 8 from by simp only [IntKind.bits]; omega]
          have ec : (2 : Int) ^ (q % 8) = (p : Int) := by rw [hp]; simp
          rw [ec, wrap_inK (by simp only [inK]; omega)]
          omega
        have hy8 : (UInt8.ofNat p).toNat = p := by rw [UInt8.toNat_ofNat']; omega
        obtain ⟨y, hy⟩ : ∃ y, S[q / 8]? = some y := ⟨S[q / 8]'(by omega), by rw [List.getElem?_eq_getElem]⟩
        have hgd : S.getD (q / 8) default = y := by simp [List.getD, hy]
        have hpl : (pcD b i).length ≤ 44 := by rw [pcD_length]; omega
        have ht4 : rdE (S.set (q / 8) (y ^^^ UInt8.ofNat p)) = 4 := by
          rw [hS]
          exact rd_turned _ _ _ _ _ hpl (q / 8) y _ (by rw [hS] at hy; exact hy) (by rw [hp]; exact xor_ne y _ (by omega))
        (repeat (with_reducible first | (refine st_rem_told q ?_) | refine st_move ?_ | refine st_assign ?_ | refine st_len ?_ | refine st_fieldAddr0 ?_ | refine st_fieldAddr ?_ | refine st_load M ?_ | refine st_loadAgg M ?_ | refine st_load_old M ?_ | refine st_loadAgg_old M ?_ | refine st_idx_rowN M ?_ | refine st_idx_row M ?_ | refine st_idx_viewN ?_ | refine st_idx_view ?_ | refine st_ld_row M ?_ | refine st_ld_view M ?_ | refine st_str_row M ?_ | refine st_str_view M ?_ | refine st_slice_lo ?_ | refine st_slice_hi ?_ | refine st_slice_both ?_ | refine st_eq_slice_nil ?_ | refine st_eq_ptr_nil ?_ | refine st_box M fun g w1 M => ?_ | refine st_alloc M fun g w1 M => ?_ | refine st_build_struct ?_ | refine st_build_arr ?_ | refine st_store M fun w1 M => ?_ | refine st_storeAgg0 M fun w1 M => ?_ | refine st_buildSlice M fun g w1 M => ?_ | refine st_app_row M fun A' c' w1 M => ?_ | refine st_app_view M fun A' c' w1 M => ?_ | refine st_app_zeros M fun A' c' w1 M => ?_ | refine st_make M fun g w1 M => ?_ | refine st_arrptr ?_ | refine hq_nil ?_ | refine hq_then_normal ?_ | refine hq_seq ?_ | refine hq_region ?_ | refine hq_block ?_ | refine hq_skip ?_ | refine hq_ret ?_ | refine hq_exit ?_ | refine hq_then_ret ?_ | refine hq_then_exit ?_ | refine hq_blk_normal ?_ | refine hq_blk_ret ?_ | refine hq_blk_exit ?_ | refine hq_blk_exit_ne ?_ | refine hq_cond_true ?_ | refine hq_cond_false ?_ | refine st_extract ?_ | refine hq_guard_yes ?_ | refine hq_guard_no ?_ | refine hq_guard_un ?_ | refine st_pick ?_ | refine st_nilCheck ?_ | refine st_not ?_ | refine st_cmp_yes ?_ | refine st_cmp_no ?_ | refine st_add ?_ | refine st_sub ?_ | refine st_rem ?_ | refine st_quo ?_ | refine st_mul ?_ | refine st_mask ?_ | refine st_eqb_same ?_ | refine st_eqb ?_ | refine st_neb ?_ | refine st_rem_k ?_ | refine st_quo_k ?_ | refine st_add_k ?_ | refine st_mul_k ?_ | refine st_neg_k ?_ | refine st_conv ?_ | refine st_eqs_same ?_ | refine st_nes_same ?_ | refine st_eqbs ?_ | refine st_nebs ?_))
        refine st_shl ?_
        rw [es, hgd]
        have hx8 := y.toNat_lt
        refine st_xorN (x := y.toNat) (y := p) ?_
        (repeat (with_reducible first | refine st_move ?_ | refine st_assign ?_ | refine st_len ?_ | refine st_fieldAddr0 ?_ | refine st_fieldAddr ?_ | refine st_load M ?_ | refine st_loadAgg M ?_ | refine st_load_old M ?_ | refine st_loadAgg_old M ?_ | refine st_idx_rowN M ?_ | refine st_idx_row M ?_ | refine st_idx_viewN ?_ | refine st_idx_view ?_ | refine st_ld_row M ?_ | refine st_ld_view M ?_ | refine st_str_row M ?_ | refine st_str_view M ?_ | refine st_slice_lo ?_ | refine st_slice_hi ?_ | refine st_slice_both ?_ | refine st_eq_slice_nil ?_ | refine st_eq_ptr_nil ?_ | refine st_box M fun g w1 M => ?_ | refine st_alloc M fun g w1 M => ?_ | refine st_build_struct ?_ | refine st_build_arr ?_ | refine st_store M fun w1 M => ?_ | refine st_storeAgg0 M fun w1 M => ?_ | refine st_buildSlice M fun g w1 M => ?_ | refine st_app_row M fun A' c' w1 M => ?_ | refine st_app_view M fun A' c' w1 M => ?_ | refine st_app_zeros M fun A' c' w1 M => ?_ | refine st_make M fun g w1 M => ?_ | refine st_arrptr ?_ | refine hq_nil ?_ | refine hq_then_normal ?_ | refine hq_seq ?_ | refine hq_region ?_ | refine hq_block ?_ | refine hq_skip ?_ | refine hq_ret ?_ | refine hq_exit ?_ | refine hq_then_ret ?_ | refine hq_then_exit ?_ | refine hq_blk_normal ?_ | refine hq_blk_ret ?_ | refine hq_blk_exit ?_ | refine hq_blk_exit_ne ?_ | refine hq_cond_true ?_ | refine hq_cond_false ?_ | refine st_extract ?_ | refine hq_guard_yes ?_ | refine hq_guard_no ?_ | refine hq_guard_un ?_ | refine st_pick ?_ | refine st_nilCheck ?_ | refine st_not ?_ | refine st_cmp_yes ?_ | refine st_cmp_no ?_ | refine st_add ?_ | refine st_sub ?_ | refine st_rem ?_ | refine st_quo ?_ | refine st_mul ?_ | refine st_mask ?_ | refine st_eqb_same ?_ | refine st_eqb ?_ | refine st_neb ?_ | refine st_rem_k ?_ | refine st_quo_k ?_ | refine st_add_k ?_ | refine st_mul_k ?_ | refine st_neg_k ?_ | refine st_conv ?_ | refine st_eqs_same ?_ | refine st_nes_same ?_ | refine st_eqbs ?_ | refine st_nebs ?_))
        refine st_store_row M (fun w1 M => ?_) (hj := by rw [List.length_map, hsl]; exact hj)
        rw [show (Value.int .u8 ((y.toNat ^^^ p : Nat) : Int)) = bv (y ^^^ UInt8.ofNat p) from by simp only [bv, UInt8.toNat_xor, hy8], ← List.map_set] at M
        have hTl : (S.set (q / 8) (y ^^^ UInt8.ofNat p)).length = 64 := by rw [List.length_set]; exact hsl
        generalize S.set (q / 8) (y ^^^ UInt8.ofNat p) = T at *
        (repeat (with_reducible first | refine st_move ?_ | refine st_assign ?_ | refine st_len ?_ | refine st_fieldAddr0 ?_ | refine st_fieldAddr ?_ | refine st_load M ?_ | refine st_loadAgg M ?_ | refine st_load_old M ?_ | refine st_loadAgg_old M ?_ | refine st_idx_rowN M ?_ | refine st_idx_row M ?_ | refine st_idx_viewN ?_ | refine st_idx_view ?_ | refine st_ld_row M ?_ | refine st_ld_view M ?_ | refine st_str_row M ?_ | refine st_str_view M ?_ | refine st_slice_lo ?_ | refine st_slice_hi ?_ | refine st_slice_both ?_ | refine st_eq_slice_nil ?_ | refine st_eq_ptr_nil ?_ | refine st_box M fun g w1 M => ?_ | refine st_alloc M fun g w1 M => ?_ | refine st_build_struct ?_ | refine st_build_arr ?_ | refine st_store M fun w1 M => ?_ | refine st_storeAgg0 M fun w1 M => ?_ | refine st_buildSlice M fun g w1 M => ?_ | refine st_app_row M fun A' c' w1 M => ?_ | refine st_app_view M fun A' c' w1 M => ?_ | refine st_app_zeros M fun A' c' w1 M => ?_ | refine st_make M fun g w1 M => ?_ | refine st_arrptr ?_ | refine hq_nil ?_ | refine hq_then_normal ?_ | refine hq_seq ?_ | refine hq_region ?_ | refine hq_block ?_ | refine hq_skip ?_ | refine hq_ret ?_ | refine hq_exit ?_ | refine hq_then_ret ?_ | refine hq_then_exit ?_ | refine hq_blk_normal ?_ | refine hq_blk_ret ?_ | refine hq_blk_exit ?_ | refine hq_blk_exit_ne ?_ | refine hq_cond_true ?_ | refine hq_cond_false ?_ | refine st_extract ?_ | refine hq_guard_yes ?_ | refine hq_guard_no ?_ | refine hq_guard_un ?_ | refine st_pick ?_ | refine st_nilCheck ?_ | refine st_not ?_ | refine st_cmp_yes ?_ | refine st_cmp_no ?_ | refine st_add ?_ | refine st_sub ?_ | refine st_rem ?_ | refine st_quo ?_ | refine st_mul ?_ | refine st_mask ?_ | refine st_eqb_same ?_ | refine st_eqb ?_ | refine st_neb ?_ | refine st_rem_k ?_ | refine st_quo_k ?_ | refine st_add_k ?_ | refine st_mul_k ?_ | refine st_neg_k ?_ | refine st_conv ?_ | refine st_eqs_same ?_ | refine st_nes_same ?_ | refine st_eqbs ?_ | refine st_nebs ?_))
        obtain ⟨rt, hrt⟩ : ∃ rt : Rw, rt = ⟨As, 64, cs, T⟩ := ⟨_, rfl⟩
        refine st_store_row M (fun w1 M => ?_) (hj := by rw [List.length_map, hlS]; exact hin)
        have M : Mem wBA [] [.row As 64 cs (T.map bv) 5 1, .row X (needN m2) cX ((rsL.set i rt).map Rw.v) 22 1] w1 := by
          rw [List.map_set, hrt]
          have h0 := M
          rw [List.map_set, List.set_set] at h0
          exact h0
        have hrto : rt.ok w1 := rent_ok (r := rt) (by rw [hrt]; exact M.rowOk As 64 cs)
        have hrtn : rt.n ≤ 1000000 := by rw [hrt]; simp
        have g2 : gatI ((rsL.set i rt).map (·.bs)) a = ([], 0, 0, 4) := by
          have := turns_err hokL hinb T (by rw [ht4]; decide)
          rw [ht4] at this
          rw [List.map_set, hrsL, ← hl, hrt]
          exact this
        (repeat (with_reducible first | refine st_move ?_ | refine st_assign ?_ | refine st_len ?_ | refine st_fieldAddr0 ?_ | refine st_fieldAddr ?_ | refine st_load M ?_ | refine st_loadAgg M ?_ | refine st_load_old M ?_ | refine st_loadAgg_old M ?_ | refine st_idx_rowN M ?_ | refine st_idx_row M ?_ | refine st_idx_viewN ?_ | refine st_idx_view ?_ | refine st_ld_row M ?_ | refine st_ld_view M ?_ | refine st_str_row M ?_ | refine st_str_view M ?_ | refine st_slice_lo ?_ | refine st_slice_hi ?_ | refine st_slice_both ?_ | refine st_eq_slice_nil ?_ | refine st_eq_ptr_nil ?_ | refine st_box M fun g w1 M => ?_ | refine st_alloc M fun g w1 M => ?_ | refine st_build_struct ?_ | refine st_build_arr ?_ | refine st_store M fun w1 M => ?_ | refine st_storeAgg0 M fun w1 M => ?_ | refine st_buildSlice M fun g w1 M => ?_ | refine st_app_row M fun A' c' w1 M => ?_ | refine st_app_view M fun A' c' w1 M => ?_ | refine st_app_zeros M fun A' c' w1 M => ?_ | refine st_make M fun g w1 M => ?_ | refine st_arrptr ?_ | refine hq_nil ?_ | refine hq_then_normal ?_ | refine hq_seq ?_ | refine hq_region ?_ | refine hq_block ?_ | refine hq_skip ?_ | refine hq_ret ?_ | refine hq_exit ?_ | refine hq_then_ret ?_ | refine hq_then_exit ?_ | refine hq_blk_normal ?_ | refine hq_blk_ret ?_ | refine hq_blk_exit ?_ | refine hq_blk_exit_ne ?_ | refine hq_cond_true ?_ | refine hq_cond_false ?_ | refine st_extract ?_ | refine hq_guard_yes ?_ | refine hq_guard_no ?_ | refine hq_guard_un ?_ | refine st_pick ?_ | refine st_nilCheck ?_ | refine st_not ?_ | refine st_cmp_yes ?_ | refine st_cmp_no ?_ | refine st_add ?_ | refine st_sub ?_ | refine st_rem ?_ | refine st_quo ?_ | refine st_mul ?_ | refine st_mask ?_ | refine st_eqb_same ?_ | refine st_eqb ?_ | refine st_neb ?_ | refine st_rem_k ?_ | refine st_quo_k ?_ | refine st_add_k ?_ | refine st_mul_k ?_ | refine st_neg_k ?_ | refine st_conv ?_ | refine st_eqs_same ?_ | refine st_nes_same ?_ | refine st_eqbs ?_ | refine st_nebs ?_))
        refine st_callrr M rfl (gather_spec X (needN m2) cX (rsL.set i rt) a _ (M.viewRow X (needN m2) cX) (hlS rt) (mem_set_ok (fun r hr => ⟨Rw.ok_ext M (hrcL r hr).1, (hrcL r hr).2⟩) ⟨hrto, hrtn⟩) (by omega)) fun u w3 M => ?_
        rw [g2] at M ⊢
        dsimp only at M ⊢
        -- the sector of another epoch
        obtain ⟨ro, hro⟩ : ∃ ro, ro = rsO.getD i default := ⟨_, rfl⟩
        rw [← hro] at hbo hroo
        (repeat (with_reducible first | refine st_move ?_ | refine st_assign ?_ | refine st_len ?_ | refine st_fieldAddr0 ?_ | refine st_fieldAddr ?_ | refine st_load M ?_ | refine st_loadAgg M ?_ | refine st_load_old M ?_ | refine st_loadAgg_old M ?_ | refine st_idx_rowN M ?_ | refine st_idx_row M ?_ | refine st_idx_viewN ?_ | refine st_idx_view ?_ | refine st_ld_row M ?_ | refine st_ld_view M ?_ | refine st_str_row M ?_ | refine st_str_view M ?_ | refine st_slice_lo ?_ | refine st_slice_hi ?_ | refine st_slice_both ?_ | refine st_eq_slice_nil ?_ | refine st_eq_ptr_nil ?_ | refine st_box M fun g w1 M => ?_ | refine st_alloc M fun g w1 M => ?_ | refine st_build_struct ?_ | refine st_build_arr ?_ | refine st_store M fun w1 M => ?_ | refine st_storeAgg0 M fun w1 M => ?_ | refine st_buildSlice M fun g w1 M => ?_ | refine st_app_row M fun A' c' w1 M => ?_ | refine st_app_view M fun A' c' w1 M => ?_ | refine st_app_zeros M fun A' c' w1 M => ?_ | refine st_make M fun g w1 M => ?_ | refine st_arrptr ?_ | refine hq_nil ?_ | refine hq_then_normal ?_ | refine hq_seq ?_ | refine hq_region ?_ | refine hq_block ?_ | refine hq_skip ?_ | refine hq_ret ?_ | refine hq_exit ?_ | refine hq_then_ret ?_ | refine hq_then_exit ?_ | refine hq_blk_normal ?_ | refine hq_blk_ret ?_ | refine hq_blk_exit ?_ | refine hq_blk_exit_ne ?_ | refine hq_cond_true ?_ | refine hq_cond_false ?_ | refine st_extract ?_ | refine hq_guard_yes ?_ | refine hq_guard_no ?_ | refine hq_guard_un ?_ | refine st_pick ?_ | refine st_nilCheck ?_ | refine st_not ?_ | refine st_cmp_yes ?_ | refine st_cmp_no ?_ | refine st_add ?_ | refine st_sub ?_ | refine st_rem ?_ | refine st_quo ?_ | refine st_mul ?_ | refine st_mask ?_ | refine st_eqb_same ?_ | refine st_eqb ?_ | refine st_neb ?_ | refine st_rem_k ?_ | refine st_quo_k ?_ | refine st_add_k ?_ | refine st_mul_k ?_ | refine st_neg_k ?_ | refine st_conv ?_ | refine st_eqs_same ?_ | refine st_nes_same ?_ | refine st_eqbs ?_ | refine st_nebs ?_))
        rw [← hro]
        clear hro
        refine st_store_row M (fun w1 M => ?_) (hj := by rw [List.length_map, hlS]; exact hin)
        have M : Mem wBA [] [.row X (needN m2) cX ((rsL.set i ro).map Rw.v) 22 1] w1 := by
          rw [List.map_set]
          have h0 := M
          rw [List.map_set, List.set_set] at h0
          exact h0.pick'
        by_cases hn1 : needN m2 = 1
        · obtain rfl : i = 0 := by omega
          have g3 : gatI ((rsL.set 0 ro).map (·.bs)) a = (d, 4, 1, 0) := by
            have := turns_one hokL hokO (by omega) (by rw [hl]; exact hn1)
            rw [List.map_set, hrsL, ← hl, hbo]
            exact this
          (repeat (with_reducible first | refine st_move ?_ | refine st_assign ?_ | refine st_len ?_ | refine st_fieldAddr0 ?_ | refine st_fieldAddr ?_ | refine st_load M ?_ | refine st_loadAgg M ?_ | refine st_load_old M ?_ | refine st_loadAgg_old M ?_ | refine st_idx_rowN M ?_ | refine st_idx_row M ?_ | refine st_idx_viewN ?_ | refine st_idx_view ?_ | refine st_ld_row M ?_ | refine st_ld_view M ?_ | refine st_str_row M ?_ | refine st_str_view M ?_ | refine st_slice_lo ?_ | refine st_slice_hi ?_ | refine st_slice_both ?_ | refine st_eq_slice_nil ?_ | refine st_eq_ptr_nil ?_ | refine st_box M fun g w1 M => ?_ | refine st_alloc M fun g w1 M => ?_ | refine st_build_struct ?_ | refine st_build_arr ?_ | refine st_store M fun w1 M => ?_ | refine st_storeAgg0 M fun w1 M => ?_ | refine st_buildSlice M fun g w1 M => ?_ | refine st_app_row M fun A' c' w1 M => ?_ | refine st_app_view M fun A' c' w1 M => ?_ | refine st_app_zeros M fun A' c' w1 M => ?_ | refine st_make M fun g w1 M => ?_ | refine st_arrptr ?_ | refine hq_nil ?_ | refine hq_then_normal ?_ | refine hq_seq ?_ | refine hq_region ?_ | refine hq_block ?_ | refine hq_skip ?_ | refine hq_ret ?_ | refine hq_exit ?_ | refine hq_then_ret ?_ | refine hq_then_exit ?_ | refine hq_blk_normal ?_ | refine hq_blk_ret ?_ | refine hq_blk_exit ?_ | refine hq_blk_exit_ne ?_ | refine hq_cond_true ?_ | refine hq_cond_false ?_ | refine st_extract ?_ | refine hq_guard_yes ?_ | refine hq_guard_no ?_ | refine hq_guard_un ?_ | refine st_pick ?_ | refine st_nilCheck ?_ | refine st_not ?_ | refine st_cmp_yes ?_ | refine st_cmp_no ?_ | refine st_add ?_ | refine st_sub ?_ | refine st_rem ?_ | refine st_quo ?_ | refine st_mul ?_ | refine st_mask ?_ | refine st_eqb_same ?_ | refine st_eqb ?_ | refine st_neb ?_ | refine st_rem_k ?_ | refine st_quo_k ?_ | refine st_add_k ?_ | refine st_mul_k ?_ | refine st_neg_k ?_ | refine st_conv ?_ | refine st_eqs_same ?_ | refine st_nes_same ?_ | refine st_eqbs ?_ | refine st_nebs ?_))
          refine st_callrr M rfl (gather_spec X (needN m2) cX (rsL.set 0 ro) a _ (M.viewRow X (needN m2) cX) (hlS ro) (mem_set_ok (fun r hr => ⟨Rw.ok_ext M (hrcL r hr).1, (hrcL r hr).2⟩) ⟨Rw.ok_ext M hroo.1, hroo.2⟩) (by omega)) fun v w4 M => ?_
          rw [g3] at M ⊢
          dsimp only at M ⊢
          (repeat (with_reducible first | refine st_move ?_ | refine st_assign ?_ | refine st_len ?_ | refine st_fieldAddr0 ?_ | refine st_fieldAddr ?_ | refine st_load M ?_ | refine st_loadAgg M ?_ | refine st_load_old M ?_ | refine st_loadAgg_old M ?_ | refine st_idx_rowN M ?_ | refine st_idx_row M ?_ | refine st_idx_viewN ?_ | refine st_idx_view ?_ | refine st_ld_row M ?_ | refine st_ld_view M ?_ | refine st_str_row M ?_ | refine st_str_view M ?_ | refine st_slice_lo ?_ | refine st_slice_hi ?_ | refine st_slice_both ?_ | refine st_eq_slice_nil ?_ | refine st_eq_ptr_nil ?_ | refine st_box M fun g w1 M => ?_ | refine st_alloc M fun g w1 M => ?_ | refine st_build_struct ?_ | refine st_build_arr ?_ | refine st_store M fun w1 M => ?_ | refine st_storeAgg0 M fun w1 M => ?_ | refine st_buildSlice M fun g w1 M => ?_ | refine st_app_row M fun A' c' w1 M => ?_ | refine st_app_view M fun A' c' w1 M => ?_ | refine st_app_zeros M fun A' c' w1 M => ?_ | refine st_make M fun g w1 M => ?_ | refine st_arrptr ?_ | refine hq_nil ?_ | refine hq_then_normal ?_ | refine hq_seq ?_ | refine hq_region ?_ | refine hq_block ?_ | refine hq_skip ?_ | refine hq_ret ?_ | refine hq_exit ?_ | refine hq_then_ret ?_ | refine hq_then_exit ?_ | refine hq_blk_normal ?_ | refine hq_blk_ret ?_ | refine hq_blk_exit ?_ | refine hq_blk_exit_ne ?_ | refine hq_cond_true ?_ | refine hq_cond_false ?_ | refine st_extract ?_ | refine hq_guard_yes ?_ | refine hq_guard_no ?_ | refine hq_guard_un ?_ | refine st_pick ?_ | refine st_nilCheck ?_ | refine st_not ?_ | refine st_cmp_yes ?_ | refine st_cmp_no ?_ | refine st_add ?_ | refine st_sub ?_ | refine st_rem ?_ | refine st_quo ?_ | refine st_mul ?_ | refine st_mask ?_ | refine st_eqb_same ?_ | refine st_eqb ?_ | refine st_neb ?_ | refine st_rem_k ?_ | refine st_quo_k ?_ | refine st_add_k ?_ | refine st_mul_k ?_ | refine st_neg_k ?_ | refine st_conv ?_ | refine st_eqs_same ?_ | refine st_nes_same ?_ | refine st_eqbs ?_ | refine st_nebs ?_))
          exact hq_end1 ⟨rfl, ((M0L.call0 M0O).call0 M0A).call0 M.dropAll⟩
        · have g3 : gatI ((rsL.set i ro).map (·.bs)) a = ([], 0, 0, 3) := by
            have := turns_many hokL hokO (by omega) (by decide) hinb (by rw [hl]; omega)
            rw [List.map_set, hrsL, ← hl, hbo]
            exact this
          (repeat (with_reducible first | refine st_move ?_ | refine st_assign ?_ | refine st_len ?_ | refine st_fieldAddr0 ?_ | refine st_fieldAddr ?_ | refine st_load M ?_ | refine st_loadAgg M ?_ | refine st_load_old M ?_ | refine st_loadAgg_old M ?_ | refine st_idx_rowN M ?_ | refine st_idx_row M ?_ | refine st_idx_viewN ?_ | refine st_idx_view ?_ | refine st_ld_row M ?_ | refine st_ld_view M ?_ | refine st_str_row M ?_ | refine st_str_view M ?_ | refine st_slice_lo ?_ | refine st_slice_hi ?_ | refine st_slice_both ?_ | refine st_eq_slice_nil ?_ | refine st_eq_ptr_nil ?_ | refine st_box M fun g w1 M => ?_ | refine st_alloc M fun g w1 M => ?_ | refine st_build_struct ?_ | refine st_build_arr ?_ | refine st_store M fun w1 M => ?_ | refine st_storeAgg0 M fun w1 M => ?_ | refine st_buildSlice M fun g w1 M => ?_ | refine st_app_row M fun A' c' w1 M => ?_ | refine st_app_view M fun A' c' w1 M => ?_ | refine st_app_zeros M fun A' c' w1 M => ?_ | refine st_make M fun g w1 M => ?_ | refine st_arrptr ?_ | refine hq_nil ?_ | refine hq_then_normal ?_ | refine hq_seq ?_ | refine hq_region ?_ | refine hq_block ?_ | refine hq_skip ?_ | refine hq_ret ?_ | refine hq_exit ?_ | refine hq_then_ret ?_ | refine hq_then_exit ?_ | refine hq_blk_normal ?_ | refine hq_blk_ret ?_ | refine hq_blk_exit ?_ | refine hq_blk_exit_ne ?_ | refine hq_cond_true ?_ | refine hq_cond_false ?_ | refine st_extract ?_ | refine hq_guard_yes ?_ | refine hq_guard_no ?_ | refine hq_guard_un ?_ | refine st_pick ?_ | refine st_nilCheck ?_ | refine st_not ?_ | refine st_cmp_yes ?_ | refine st_cmp_no ?_ | refine st_add ?_ | refine st_sub ?_ | refine st_rem ?_ | refine st_quo ?_ | refine st_mul ?_ | refine st_mask ?_ | refine st_eqb_same ?_ | refine st_eqb ?_ | refine st_neb ?_ | refine st_rem_k ?_ | refine st_quo_k ?_ | refine st_add_k ?_ | refine st_mul_k ?_ | refine st_neg_k ?_ | refine st_conv ?_ | refine st_eqs_same ?_ | refine st_nes_same ?_ | refine st_eqbs ?_ | refine st_nebs ?_))
          refine st_callrr M rfl (gather_spec X (needN m2) cX (rsL.set i ro) a _ (M.viewRow X (needN m2) cX) (hlS ro) (mem_set_ok (fun r hr => ⟨Rw.ok_ext M (hrcL r hr).1, (hrcL r hr).2⟩) ⟨Rw.ok_ext M hroo.1, hroo.2⟩) (by omega)) fun v w4 M => ?_
          rw [g3] at M ⊢
          dsimp only at M ⊢
          (repeat (with_reducible first | refine st_move ?_ | refine st_assign ?_ | refine st_len ?_ | refine st_fieldAddr0 ?_ | refine st_fieldAddr ?_ | refine st_load M ?_ | refine st_loadAgg M ?_ | refine st_load_old M ?_ | refine st_loadAgg_old M ?_ | refine st_idx_rowN M ?_ | refine st_idx_row M ?_ | refine st_idx_viewN ?_ | refine st_idx_view ?_ | refine st_ld_row M ?_ | refine st_ld_view M ?_ | refine st_str_row M ?_ | refine st_str_view M ?_ | refine st_slice_lo ?_ | refine st_slice_hi ?_ | refine st_slice_both ?_ | refine st_eq_slice_nil ?_ | refine st_eq_ptr_nil ?_ | refine st_box M fun g w1 M => ?_ | refine st_alloc M fun g w1 M => ?_ | refine st_build_struct ?_ | refine st_build_arr ?_ | refine st_store M fun w1 M => ?_ | refine st_storeAgg0 M fun w1 M => ?_ | refine st_buildSlice M fun g w1 M => ?_ | refine st_app_row M fun A' c' w1 M => ?_ | refine st_app_view M fun A' c' w1 M => ?_ | refine st_app_zeros M fun A' c' w1 M => ?_ | refine st_make M fun g w1 M => ?_ | refine st_arrptr ?_ | refine hq_nil ?_ | refine hq_then_normal ?_ | refine hq_seq ?_ | refine hq_region ?_ | refine hq_block ?_ | refine hq_skip ?_ | refine hq_ret ?_ | refine hq_exit ?_ | refine hq_then_ret ?_ | refine hq_then_exit ?_ | refine hq_blk_normal ?_ | refine hq_blk_ret ?_ | refine hq_blk_exit ?_ | refine hq_blk_exit_ne ?_ | refine hq_cond_true ?_ | refine hq_cond_false ?_ | refine st_extract ?_ | refine hq_guard_yes ?_ | refine hq_guard_no ?_ | refine hq_guard_un ?_ | refine st_pick ?_ | refine st_nilCheck ?_ | refine st_not ?_ | refine st_cmp_yes ?_ | refine st_cmp_no ?_ | refine st_add ?_ | refine st_sub ?_ | refine st_rem ?_ | refine st_quo ?_ | refine st_mul ?_ | refine st_mask ?_ | refine st_eqb_same ?_ | refine st_eqb ?_ | refine st_neb ?_ | refine st_rem_k ?_ | refine st_quo_k ?_ | refine st_add_k ?_ | refine st_mul_k ?_ | refine st_neg_k ?_ | refine st_conv ?_ | refine st_eqs_same ?_ | refine st_nes_same ?_ | refine st_eqbs ?_ | refine st_nebs ?_))
          exact hq_end1 ⟨rfl, ((M0L.call0 M0O).call0 M0A).call0 M.dropAll⟩
    · (repeat (with_reducible first | refine st_move ?_ | refine st_assign ?_ | refine st_len ?_ | refine st_fieldAddr0 ?_ | refine st_fieldAddr ?_ | refine st_load M ?_ | refine st_loadAgg M ?_ | refine st_load_old M ?_ | refine st_loadAgg_old M ?_ | refine st_idx_rowN M ?_ | refine st_idx_row M ?_ | refine st_idx_viewN ?_ | refine st_idx_view ?_ | refine st_ld_row M ?_ | refine st_ld_view M ?_ | refine st_str_row M ?_ | refine st_str_view M ?_ | refine st_slice_lo ?_ | refine st_slice_hi ?_ | refine st_slice_both ?_ | refine st_eq_slice_nil ?_ | refine st_eq_ptr_nil ?_ | refine st_box M fun g w1 M => ?_ | refine st_alloc M fun g w1 M => ?_ | refine st_build_struct ?_ | refine st_build_arr ?_ | refine st_store M fun w1 M => ?_ | refine st_storeAgg0 M fun w1 M => ?_ | refine st_buildSlice M fun g w1 M => ?_ | refine st_app_row M fun A' c' w1 M => ?_ | refine st_app_view M fun A' c' w1 M => ?_ | refine st_app_zeros M fun A' c' w1 M => ?_ | refine st_make M fun g w1 M => ?_ | refine st_arrptr ?_ | refine hq_nil ?_ | refine hq_then_normal ?_ | refine hq_seq ?_ | refine hq_region ?_ | refine hq_block ?_ | refine hq_skip ?_ | refine hq_ret ?_ | refine hq_exit ?_ | refine hq_then_ret ?_ | refine hq_then_exit ?_ | refine hq_blk_normal ?_ | refine hq_blk_ret ?_ | refine hq_blk_exit ?_ | refine hq_blk_exit_ne ?_ | refine hq_cond_true ?_ | refine hq_cond_false ?_ | refine st_extract ?_ | refine hq_guard_yes ?_ | refine hq_guard_no ?_ | refine hq_guard_un ?_ | refine st_pick ?_ | refine st_nilCheck ?_ | refine st_not ?_ | refine st_cmp_yes ?_ | refine st_cmp_no ?_ | refine st_add ?_ | refine st_sub ?_ | refine st_rem ?_ | refine st_quo ?_ | refine st_mul ?_ | refine st_mask ?_ | refine st_eqb_same ?_ | refine st_eqb ?_ | refine st_neb ?_ | refine st_rem_k ?_ | refine st_quo_k ?_ | refine st_add_k ?_ | refine st_mul_k ?_ | refine st_neg_k ?_ | refine st_conv ?_ | refine st_eqs_same ?_ | refine st_nes_same ?_ | refine st_eqbs ?_ | refine st_nebs ?_))
      exact hq_end1 ⟨rfl, M.dropAll⟩
end Go.Proofs.YtemhbpgjnhdchaaDoor
