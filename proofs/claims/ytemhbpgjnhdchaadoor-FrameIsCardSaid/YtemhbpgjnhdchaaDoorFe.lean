/-
  Contracts: the document's Read (frame).
-/
import Derived.Test.YtemhbpgjnhdchaaDoorFd
set_option linter.unusedVariables false
namespace Go.Proofs.YtemhbpgjnhdchaaDoor
open Go Go.RowKit Sx

theorem leb_num : ∀ (bs : List UInt8), leb bs.length (num bs) = bs
  | [] => rfl
  | b :: bs => by
    have hb := b.toNat_lt
    rw [List.length_cons, leb_cons, num]
    have e1 : (b.toNat + 256 * num bs) / 256 = num bs := by omega
    have e2 : UInt8.ofNat (b.toNat + 256 * num bs) = b := by
      apply UInt8.toNat_inj.1
      rw [UInt8.toNat_ofNat']
      omega
    rw [e1, e2, leb_num bs]
theorem leb_num' (bs : List UInt8) (k : Nat) (h : bs.length = k) : leb k (num bs) = bs := by subst h; exact leb_num bs
theorem nil0_iff (bs : List UInt8) : nil0 bs = true ↔ bs = zs bs.length := by
  unfold nil0 zs
  rw [List.all_eq_true, List.eq_replicate_iff]
  simp
theorem leb_rf (bs : List UInt8) (i : Nat) (hi : i < 7) (h : bs.length = 64) : leb (wds i) (rf bs i) = (bs.drop (offs i)).take (wds i) :=
  leb_num' _ _ (by have := (offs_all i hi).2.2.2.1; simp; omega)
theorem cut1 (l : List UInt8) (a b : Nat) : l.drop a = (l.drop a).take b ++ l.drop (a + b) := by
  have := List.take_append_drop b (l.drop a)
  rw [List.drop_drop] at this
  exact this.symm
theorem two_at (bs : List UInt8) (h : bs.length = 64) : (leb 2 (rf bs 5) = (bs.drop 18).take 2) ↔ rf bs 6 = 0 := by
  have h18 : (bs.drop 18).length = 46 := by simp; omega
  match hd : bs.drop 18, h18 with
  | x :: y :: R, _ =>
    have e5 : rf bs 5 = x.toNat := by
      have : rf bs 5 = num ((bs.drop 18).take 1) := rfl
      rw [this, hd]; simp [num]
    have e6 : rf bs 6 = y.toNat := by
      have : rf bs 6 = num (((bs.drop 18).drop 1).take 1) := by rw [List.drop_drop]; rfl
      rw [this, hd]; simp [num]
    have hx := x.toNat_lt
    rw [e5, e6]
    have el : leb 2 x.toNat = [x, 0] := by
      have : leb 2 x.toNat = [UInt8.ofNat x.toNat, UInt8.ofNat (x.toNat / 256)] := by simp [leb, List.range_succ]
      rw [this, show x.toNat / 256 = 0 from by omega]
      congr 1
      exact UInt8.toNat_inj.1 (by rw [UInt8.toNat_ofNat']; omega)
    rw [el]
    simp
    constructor
    · intro h; rw [← h]; rfl
    · intro h; exact (UInt8.toNat_inj.1 (by rw [h]; rfl)).symm
/-- What is written of it is it. -/
theorem rd_eq (bs : List UInt8) (h : bs.length = 64) (hs : rf bs 0 = sumOf (bs.drop 4)) (h5 : rf bs 5 ≤ 44) :
    secB (rf bs 1) (rf bs 2) (rf bs 3) (rf bs 4) ((bs.drop 20).take (rf bs 5)) = bs ↔ rf bs 6 = 0 ∧ nil0 (bs.drop (20 + rf bs 5)) = true := by
  have hld : ((bs.drop 20).take (rf bs 5)).length = rf bs 5 := by simp; omega
  have l0 := leb_rf bs 0 (by omega) h
  have l1 := leb_rf bs 1 (by omega) h
  have l2 := leb_rf bs 2 (by omega) h
  have l3 := leb_rf bs 3 (by omega) h
  have l4 := leb_rf bs 4 (by omega) h
  change leb 4 (rf bs 0) = (bs.drop 0).take 4 at l0
  change leb 4 (rf bs 1) = (bs.drop 4).take 4 at l1
  change leb 6 (rf bs 2) = (bs.drop 8).take 6 at l2
  change leb 2 (rf bs 3) = (bs.drop 14).take 2 at l3
  change leb 2 (rf bs 4) = (bs.drop 16).take 2 at l4
  have c0 := cut1 bs 0 4
  have c1 := cut1 bs 4 4
  have c2 := cut1 bs 8 6
  have c3 := cut1 bs 14 2
  have c4 := cut1 bs 16 2
  have c5 := cut1 bs 18 2
  have c6 := cut1 bs 20 (rf bs 5)
  simp only [Nat.reduceAdd, List.drop_zero] at c0 c1 c2 c3 c4 c5 c6 l0
  have hz : nil0 (bs.drop (20 + rf bs 5)) = true ↔ zs (44 - rf bs 5) = bs.drop (20 + rf bs 5) := by
    rw [nil0_iff, List.length_drop, h, show 64 - (20 + rf bs 5) = 44 - rf bs 5 from by omega]
    exact eq_comm
  have hbody : bodyB (rf bs 1) (rf bs 2) (rf bs 3) (rf bs 4) ((bs.drop 20).take (rf bs 5)) = bs.drop 4 ↔ rf bs 6 = 0 ∧ nil0 (bs.drop (20 + rf bs 5)) = true := by
    rw [← two_at bs h, hz]
    unfold bodyB
    rw [hld, l1, l2, l3, l4]
    generalize hX5 : leb 2 (rf bs 5) = X5
    have hX5l : X5.length = 2 := by rw [← hX5, leb_length]
    have h18 : ((bs.drop 18).take 2).length = 2 := by simp; omega
    simp only [List.append_assoc]
    have t : bs.drop 4 = (bs.drop 4).take 4 ++ ((bs.drop 8).take 6 ++ ((bs.drop 14).take 2 ++ ((bs.drop 16).take 2 ++ ((bs.drop 18).take 2 ++ ((bs.drop 20).take (rf bs 5) ++ bs.drop (20 + rf bs 5)))))) := by rw [← c6, ← c5, ← c4, ← c3, ← c2, ← c1]
    constructor
    · intro e
      have e1 := List.append_cancel_left (e.trans t)
      have e2 := List.append_cancel_left e1
      have e3 := List.append_cancel_left e2
      have e4 := List.append_cancel_left e3
      have e5 := List.append_inj e4 (by omega)
      exact ⟨e5.1, List.append_cancel_left e5.2⟩
    · rintro ⟨e1, e2⟩
      rw [e1, e2, ← c6, ← c5, ← c4, ← c3, ← c2, ← c1]
  rw [← hbody]
  unfold secB
  constructor
  · intro e
    exact (List.append_inj (e.trans c0) (by rw [leb_length]; simp; omega)).2
  · intro e
    rw [e, ← hs, l0, ← c0]

theorem get_at (bs : List UInt8) (i : Nat) (hi : i < 7) (h : bs.length = 64) : getE bs.length (offs i) (wds i : Int) = 0 ∧ getV bs (offs i) (wds i : Int) = rf bs i ∧ getJ bs.length (offs i) (wds i : Int) = offs (i + 1) := by
  obtain ⟨o1, o2, o3, o4, o5⟩ := offs_all i hi
  have hE : getE bs.length (offs i) (wds i : Int) = 0 := by unfold getE; rw [if_neg (by omega), if_neg (by omega)]
  refine ⟨hE, ?_, ?_⟩
  · unfold getV; rw [if_pos hE, Int.toNat_natCast]; rfl
  · unfold getJ; rw [if_pos hE, Int.toNat_natCast, o1]
set_option maxRecDepth 100000 in
set_option maxHeartbeats 2000000 in
set_option maxHeartbeats 8000000 in
theorem rread_spec (A : Option Addr) (m c : Nat) (bs : List UInt8) (w : World) (hV : View w A (bs.map bv)) (hl : bs.length = m) (hmc : m ≤ c) (hm : m ≤ 140737488351232) :
    Calls Tryd.prog 18 #[.slice A m c] w (RetP w bs 5) := by
  have M := Mem.refl w
  refine enter ?_
  by_cases h1 : m < 64
  · have he : rdE bs = 2 := by unfold rdE; rw [if_pos (by omega)]
    have hnz : rdE bs ≠ 0 := by rw [he]; decide
    obtain ⟨rn, rd⟩ := rd_err hnz
    (repeat (with_reducible first | refine st_move ?_ | refine st_assign ?_ | refine st_len ?_ | refine st_fieldAddr0 ?_ | refine st_fieldAddr ?_ | refine st_load M ?_ | refine st_loadAgg M ?_ | refine st_load_old M ?_ | refine st_loadAgg_old M ?_ | refine st_idx_rowN M ?_ | refine st_idx_row M ?_ | refine st_idx_viewN ?_ | refine st_idx_view ?_ | refine st_ld_row M ?_ | refine st_ld_view M ?_ | refine st_str_row M ?_ | refine st_str_view M ?_ | refine st_slice_lo ?_ | refine st_slice_hi ?_ | refine st_slice_both ?_ | refine st_eq_slice_nil ?_ | refine st_eq_ptr_nil ?_ | refine st_box M fun g w1 M => ?_ | refine st_alloc M fun g w1 M => ?_ | refine st_build_struct ?_ | refine st_build_arr ?_ | refine st_store M fun w1 M => ?_ | refine st_storeAgg0 M fun w1 M => ?_ | refine st_buildSlice M fun g w1 M => ?_ | refine st_app_row M fun A' c' w1 M => ?_ | refine st_app_view M fun A' c' w1 M => ?_ | refine st_app_zeros M fun A' c' w1 M => ?_ | refine st_make M fun g w1 M => ?_ | refine st_arrptr ?_ | refine hq_nil ?_ | refine hq_then_normal ?_ | refine hq_seq ?_ | refine hq_region ?_ | refine hq_block ?_ | refine hq_skip ?_ | refine hq_ret ?_ | refine hq_exit ?_ | refine hq_then_ret ?_ | refine hq_then_exit ?_ | refine hq_blk_normal ?_ | refine hq_blk_ret ?_ | refine hq_blk_exit ?_ | refine hq_blk_exit_ne ?_ | refine hq_cond_true ?_ | refine hq_cond_false ?_ | refine st_extract ?_ | refine hq_guard_yes ?_ | refine hq_guard_no ?_ | refine hq_guard_un ?_ | refine st_pick ?_ | refine st_nilCheck ?_ | refine st_not ?_ | refine st_cmp_yes ?_ | refine st_cmp_no ?_ | refine st_add ?_ | refine st_sub ?_ | refine st_rem ?_ | refine st_quo ?_ | refine st_mul ?_ | refine st_mask ?_ | refine st_eqb_same ?_ | refine st_eqb ?_ | refine st_neb ?_ | refine st_rem_k ?_ | refine st_quo_k ?_ | refine st_add_k ?_ | refine st_mul_k ?_ | refine st_neg_k ?_ | refine st_conv ?_ | refine st_eqs_same ?_ | refine st_nes_same ?_ | refine st_eqbs ?_ | refine st_nebs ?_))
    refine hq_endc1 M rfl ⟨(none, 0), ?_, ?_⟩
    · rw [rn 1, rn 2, rn 3, rn 4, rd, he]; rfl
    · rw [rd]; exact M.dropAll.nilRow _ _
  · by_cases h2 : 64 < m
    · have he : rdE bs = 3 := by unfold rdE; rw [if_neg (by omega), if_pos (by omega)]
      have hnz : rdE bs ≠ 0 := by rw [he]; decide
      obtain ⟨rn, rd⟩ := rd_err hnz
      (repeat (with_reducible first | refine st_move ?_ | refine st_assign ?_ | refine st_len ?_ | refine st_fieldAddr0 ?_ | refine st_fieldAddr ?_ | refine st_load M ?_ | refine st_loadAgg M ?_ | refine st_load_old M ?_ | refine st_loadAgg_old M ?_ | refine st_idx_rowN M ?_ | refine st_idx_row M ?_ | refine st_idx_viewN ?_ | refine st_idx_view ?_ | refine st_ld_row M ?_ | refine st_ld_view M ?_ | refine st_str_row M ?_ | refine st_str_view M ?_ | refine st_slice_lo ?_ | refine st_slice_hi ?_ | refine st_slice_both ?_ | refine st_eq_slice_nil ?_ | refine st_eq_ptr_nil ?_ | refine st_box M fun g w1 M => ?_ | refine st_alloc M fun g w1 M => ?_ | refine st_build_struct ?_ | refine st_build_arr ?_ | refine st_store M fun w1 M => ?_ | refine st_storeAgg0 M fun w1 M => ?_ | refine st_buildSlice M fun g w1 M => ?_ | refine st_app_row M fun A' c' w1 M => ?_ | refine st_app_view M fun A' c' w1 M => ?_ | refine st_app_zeros M fun A' c' w1 M => ?_ | refine st_make M fun g w1 M => ?_ | refine st_arrptr ?_ | refine hq_nil ?_ | refine hq_then_normal ?_ | refine hq_seq ?_ | refine hq_region ?_ | refine hq_block ?_ | refine hq_skip ?_ | refine hq_ret ?_ | refine hq_exit ?_ | refine hq_then_ret ?_ | refine hq_then_exit ?_ | refine hq_blk_normal ?_ | refine hq_blk_ret ?_ | refine hq_blk_exit ?_ | refine hq_blk_exit_ne ?_ | refine hq_cond_true ?_ | refine hq_cond_false ?_ | refine st_extract ?_ | refine hq_guard_yes ?_ | refine hq_guard_no ?_ | refine hq_guard_un ?_ | refine st_pick ?_ | refine st_nilCheck ?_ | refine st_not ?_ | refine st_cmp_yes ?_ | refine st_cmp_no ?_ | refine st_add ?_ | refine st_sub ?_ | refine st_rem ?_ | refine st_quo ?_ | refine st_mul ?_ | refine st_mask ?_ | refine st_eqb_same ?_ | refine st_eqb ?_ | refine st_neb ?_ | refine st_rem_k ?_ | refine st_quo_k ?_ | refine st_add_k ?_ | refine st_mul_k ?_ | refine st_neg_k ?_ | refine st_conv ?_ | refine st_eqs_same ?_ | refine st_nes_same ?_ | refine st_eqbs ?_ | refine st_nebs ?_))
      refine hq_endc1 M rfl ⟨(none, 0), ?_, ?_⟩
      · rw [rn 1, rn 2, rn 3, rn 4, rd, he]; rfl
      · rw [rd]; exact M.dropAll.nilRow _ _
    · obtain rfl : m = 64 := by omega
      have hc4 : 64 ≤ c := hmc
      have g0 : getE bs.length 0 4 = 0 ∧ getV bs 0 4 = rf bs 0 ∧ getJ bs.length 0 4 = 4 := get_at bs 0 (by omega) hl
      have g1 : getE bs.length 4 4 = 0 ∧ getV bs 4 4 = rf bs 1 ∧ getJ bs.length 4 4 = 8 := get_at bs 1 (by omega) hl
      have g2 : getE bs.length 8 6 = 0 ∧ getV bs 8 6 = rf bs 2 ∧ getJ bs.length 8 6 = 14 := get_at bs 2 (by omega) hl
      have g3 : getE bs.length 14 2 = 0 ∧ getV bs 14 2 = rf bs 3 ∧ getJ bs.length 14 2 = 16 := get_at bs 3 (by omega) hl
      have g4 : getE bs.length 16 2 = 0 ∧ getV bs 16 2 = rf bs 4 ∧ getJ bs.length 16 2 = 18 := get_at bs 4 (by omega) hl
      have g5 : getE bs.length 18 1 = 0 ∧ getV bs 18 1 = rf bs 5 ∧ getJ bs.length 18 1 = 19 := get_at bs 5 (by omega) hl
      have b0 := rf_lt bs 0 (by omega) hl
      have b1 := rf_lt bs 1 (by omega) hl
      have b2 := rf_lt bs 2 (by omega) hl
      have b3 := rf_lt bs 3 (by omega) hl
      have b4 := rf_lt bs 4 (by omega) hl
      have b5 := rf_lt bs 5 (by omega) hl
      have w0' : 256 ^ wds 0 = 4294967296 := by decide
      have w1' : 256 ^ wds 1 = 4294967296 := by decide
      have w2' : 256 ^ wds 2 = 281474976710656 := by decide
      have w3' : 256 ^ wds 3 = 65536 := by decide
      have w4' : 256 ^ wds 4 = 65536 := by decide
      have w5' : 256 ^ wds 5 = 256 := by decide
      have hs4 := sumOf_lt (bs.drop 4)
      have hRd : rdE bs = if rf bs 0 ≠ sumOf (bs.drop 4) then 4 else if RdOk bs then 0 else 3 := by unfold rdE; rw [if_neg (by omega), if_neg (by omega)]
      have hV4 : View w (cutA A c 4 1) ((bs.drop 4).map bv) := by
        have := hV.cut (cap := c) (lo := 4) (m := 60) (sz := 1) (fun h => by omega)
        rw [List.map_drop]
        rwa [List.take_of_length_le (by simp; omega)] at this
      (repeat (with_reducible first | refine st_move ?_ | refine st_assign ?_ | refine st_len ?_ | refine st_fieldAddr0 ?_ | refine st_fieldAddr ?_ | refine st_load M ?_ | refine st_loadAgg M ?_ | refine st_load_old M ?_ | refine st_loadAgg_old M ?_ | refine st_idx_rowN M ?_ | refine st_idx_row M ?_ | refine st_idx_viewN ?_ | refine st_idx_view ?_ | refine st_ld_row M ?_ | refine st_ld_view M ?_ | refine st_str_row M ?_ | refine st_str_view M ?_ | refine st_slice_lo ?_ | refine st_slice_hi ?_ | refine st_slice_both ?_ | refine st_eq_slice_nil ?_ | refine st_eq_ptr_nil ?_ | refine st_box M fun g w1 M => ?_ | refine st_alloc M fun g w1 M => ?_ | refine st_build_struct ?_ | refine st_build_arr ?_ | refine st_store M fun w1 M => ?_ | refine st_storeAgg0 M fun w1 M => ?_ | refine st_buildSlice M fun g w1 M => ?_ | refine st_app_row M fun A' c' w1 M => ?_ | refine st_app_view M fun A' c' w1 M => ?_ | refine st_app_zeros M fun A' c' w1 M => ?_ | refine st_make M fun g w1 M => ?_ | refine st_arrptr ?_ | refine hq_nil ?_ | refine hq_then_normal ?_ | refine hq_seq ?_ | refine hq_region ?_ | refine hq_block ?_ | refine hq_skip ?_ | refine hq_ret ?_ | refine hq_exit ?_ | refine hq_then_ret ?_ | refine hq_then_exit ?_ | refine hq_blk_normal ?_ | refine hq_blk_ret ?_ | refine hq_blk_exit ?_ | refine hq_blk_exit_ne ?_ | refine hq_cond_true ?_ | refine hq_cond_false ?_ | refine st_extract ?_ | refine hq_guard_yes ?_ | refine hq_guard_no ?_ | refine hq_guard_un ?_ | refine st_pick ?_ | refine st_nilCheck ?_ | refine st_not ?_ | refine st_cmp_yes ?_ | refine st_cmp_no ?_ | refine st_add ?_ | refine st_sub ?_ | refine st_rem ?_ | refine st_quo ?_ | refine st_mul ?_ | refine st_mask ?_ | refine st_eqb_same ?_ | refine st_eqb ?_ | refine st_neb ?_ | refine st_rem_k ?_ | refine st_quo_k ?_ | refine st_add_k ?_ | refine st_mul_k ?_ | refine st_neg_k ?_ | refine st_conv ?_ | refine st_eqs_same ?_ | refine st_nes_same ?_ | refine st_eqbs ?_ | refine st_nebs ?_))
      rename_i q0 w0 M0
      generalize g = r at *
      have M : Mem w [] [.blk r (rv A bs.length c 0) 70, .blk q0 [.int .i64 0, .int .i64 0, .int .i64 0, .int .i64 0, .slice none 0 0] 37] w1 := by rw [hl]; exact M
      refine st_callg0 M rfl (rget_spec r A c 0 bs 4 _ (M.blkOk r) (by omega) (by omega) (M.view hV) (M.far_view hV)) (fun _ w1 _ M => ?_)
      rw [g0.2.2] at M
      rw [g0.2.1, g0.1]
      (repeat (with_reducible first | refine st_move ?_ | refine st_assign ?_ | refine st_len ?_ | refine st_fieldAddr0 ?_ | refine st_fieldAddr ?_ | refine st_load M ?_ | refine st_loadAgg M ?_ | refine st_load_old M ?_ | refine st_loadAgg_old M ?_ | refine st_idx_rowN M ?_ | refine st_idx_row M ?_ | refine st_idx_viewN ?_ | refine st_idx_view ?_ | refine st_ld_row M ?_ | refine st_ld_view M ?_ | refine st_str_row M ?_ | refine st_str_view M ?_ | refine st_slice_lo ?_ | refine st_slice_hi ?_ | refine st_slice_both ?_ | refine st_eq_slice_nil ?_ | refine st_eq_ptr_nil ?_ | refine st_box M fun g w1 M => ?_ | refine st_alloc M fun g w1 M => ?_ | refine st_build_struct ?_ | refine st_build_arr ?_ | refine st_store M fun w1 M => ?_ | refine st_storeAgg0 M fun w1 M => ?_ | refine st_buildSlice M fun g w1 M => ?_ | refine st_app_row M fun A' c' w1 M => ?_ | refine st_app_view M fun A' c' w1 M => ?_ | refine st_app_zeros M fun A' c' w1 M => ?_ | refine st_make M fun g w1 M => ?_ | refine st_arrptr ?_ | refine hq_nil ?_ | refine hq_then_normal ?_ | refine hq_seq ?_ | refine hq_region ?_ | refine hq_block ?_ | refine hq_skip ?_ | refine hq_ret ?_ | refine hq_exit ?_ | refine hq_then_ret ?_ | refine hq_then_exit ?_ | refine hq_blk_normal ?_ | refine hq_blk_ret ?_ | refine hq_blk_exit ?_ | refine hq_blk_exit_ne ?_ | refine hq_cond_true ?_ | refine hq_cond_false ?_ | refine st_extract ?_ | refine hq_guard_yes ?_ | refine hq_guard_no ?_ | refine hq_guard_un ?_ | refine st_pick ?_ | refine st_nilCheck ?_ | refine st_not ?_ | refine st_cmp_yes ?_ | refine st_cmp_no ?_ | refine st_add ?_ | refine st_sub ?_ | refine st_rem ?_ | refine st_quo ?_ | refine st_mul ?_ | refine st_mask ?_ | refine st_eqb_same ?_ | refine st_eqb ?_ | refine st_neb ?_ | refine st_rem_k ?_ | refine st_quo_k ?_ | refine st_add_k ?_ | refine st_mul_k ?_ | refine st_neg_k ?_ | refine st_conv ?_ | refine st_eqs_same ?_ | refine st_nes_same ?_ | refine st_eqbs ?_ | refine st_nebs ?_))
      refine st_callv M rfl (rof_spec (cutA A c 4 1) 60 (c - 4) (bs.drop 4) _ (M.view hV4) (by rw [List.length_drop]; omega) (by omega)) fun w1 M => ?_
      by_cases h3 : rf bs 0 = sumOf (bs.drop 4)
      · have h3' : ¬ rf bs 0 ≠ sumOf (bs.drop 4) := fun h => h h3
        (repeat (with_reducible first | refine st_move ?_ | refine st_assign ?_ | refine st_len ?_ | refine st_fieldAddr0 ?_ | refine st_fieldAddr ?_ | refine st_load M ?_ | refine st_loadAgg M ?_ | refine st_load_old M ?_ | refine st_loadAgg_old M ?_ | refine st_idx_rowN M ?_ | refine st_idx_row M ?_ | refine st_idx_viewN ?_ | refine st_idx_view ?_ | refine st_ld_row M ?_ | refine st_ld_view M ?_ | refine st_str_row M ?_ | refine st_str_view M ?_ | refine st_slice_lo ?_ | refine st_slice_hi ?_ | refine st_slice_both ?_ | refine st_eq_slice_nil ?_ | refine st_eq_ptr_nil ?_ | refine st_box M fun g w1 M => ?_ | refine st_alloc M fun g w1 M => ?_ | refine st_build_struct ?_ | refine st_build_arr ?_ | refine st_store M fun w1 M => ?_ | refine st_storeAgg0 M fun w1 M => ?_ | refine st_buildSlice M fun g w1 M => ?_ | refine st_app_row M fun A' c' w1 M => ?_ | refine st_app_view M fun A' c' w1 M => ?_ | refine st_app_zeros M fun A' c' w1 M => ?_ | refine st_make M fun g w1 M => ?_ | refine st_arrptr ?_ | refine hq_nil ?_ | refine hq_then_normal ?_ | refine hq_seq ?_ | refine hq_region ?_ | refine hq_block ?_ | refine hq_skip ?_ | refine hq_ret ?_ | refine hq_exit ?_ | refine hq_then_ret ?_ | refine hq_then_exit ?_ | refine hq_blk_normal ?_ | refine hq_blk_ret ?_ | refine hq_blk_exit ?_ | refine hq_blk_exit_ne ?_ | refine hq_cond_true ?_ | refine hq_cond_false ?_ | refine st_extract ?_ | refine hq_guard_yes ?_ | refine hq_guard_no ?_ | refine hq_guard_un ?_ | refine st_pick ?_ | refine st_nilCheck ?_ | refine st_not ?_ | refine st_cmp_yes ?_ | refine st_cmp_no ?_ | refine st_add ?_ | refine st_sub ?_ | refine st_rem ?_ | refine st_quo ?_ | refine st_mul ?_ | refine st_mask ?_ | refine st_eqb_same ?_ | refine st_eqb ?_ | refine st_neb ?_ | refine st_rem_k ?_ | refine st_quo_k ?_ | refine st_add_k ?_ | refine st_mul_k ?_ | refine st_neg_k ?_ | refine st_conv ?_ | refine st_eqs_same ?_ | refine st_nes_same ?_ | refine st_eqbs ?_ | refine st_nebs ?_))
        refine st_callg0 M rfl (rget_spec r A c 4 bs 4 _ (M.blkOk r) (by omega) (by omega) (M.view hV) (M.far_view hV)) (fun _ w1 _ M => ?_)
        rw [g1.2.2] at M
        rw [g1.2.1, g1.1]
        (repeat (with_reducible first | refine st_move ?_ | refine st_assign ?_ | refine st_len ?_ | refine st_fieldAddr0 ?_ | refine st_fieldAddr ?_ | refine st_load M ?_ | refine st_loadAgg M ?_ | refine st_load_old M ?_ | refine st_loadAgg_old M ?_ | refine st_idx_rowN M ?_ | refine st_idx_row M ?_ | refine st_idx_viewN ?_ | refine st_idx_view ?_ | refine st_ld_row M ?_ | refine st_ld_view M ?_ | refine st_str_row M ?_ | refine st_str_view M ?_ | refine st_slice_lo ?_ | refine st_slice_hi ?_ | refine st_slice_both ?_ | refine st_eq_slice_nil ?_ | refine st_eq_ptr_nil ?_ | refine st_box M fun g w1 M => ?_ | refine st_alloc M fun g w1 M => ?_ | refine st_build_struct ?_ | refine st_build_arr ?_ | refine st_store M fun w1 M => ?_ | refine st_storeAgg0 M fun w1 M => ?_ | refine st_buildSlice M fun g w1 M => ?_ | refine st_app_row M fun A' c' w1 M => ?_ | refine st_app_view M fun A' c' w1 M => ?_ | refine st_app_zeros M fun A' c' w1 M => ?_ | refine st_make M fun g w1 M => ?_ | refine st_arrptr ?_ | refine hq_nil ?_ | refine hq_then_normal ?_ | refine hq_seq ?_ | refine hq_region ?_ | refine hq_block ?_ | refine hq_skip ?_ | refine hq_ret ?_ | refine hq_exit ?_ | refine hq_then_ret ?_ | refine hq_then_exit ?_ | refine hq_blk_normal ?_ | refine hq_blk_ret ?_ | refine hq_blk_exit ?_ | refine hq_blk_exit_ne ?_ | refine hq_cond_true ?_ | refine hq_cond_false ?_ | refine st_extract ?_ | refine hq_guard_yes ?_ | refine hq_guard_no ?_ | refine hq_guard_un ?_ | refine st_pick ?_ | refine st_nilCheck ?_ | refine st_not ?_ | refine st_cmp_yes ?_ | refine st_cmp_no ?_ | refine st_add ?_ | refine st_sub ?_ | refine st_rem ?_ | refine st_quo ?_ | refine st_mul ?_ | refine st_mask ?_ | refine st_eqb_same ?_ | refine st_eqb ?_ | refine st_neb ?_ | refine st_rem_k ?_ | refine st_quo_k ?_ | refine st_add_k ?_ | refine st_mul_k ?_ | refine st_neg_k ?_ | refine st_conv ?_ | refine st_eqs_same ?_ | refine st_nes_same ?_ | refine st_eqbs ?_ | refine st_nebs ?_))
        refine st_callg0 M rfl (rget_spec r A c 8 bs 6 _ (M.blkOk r) (by omega) (by omega) (M.view hV) (M.far_view hV)) (fun _ w1 _ M => ?_)
        rw [g2.2.2] at M
        rw [g2.2.1, g2.1]
        (repeat (with_reducible first | refine st_move ?_ | refine st_assign ?_ | refine st_len ?_ | refine st_fieldAddr0 ?_ | refine st_fieldAddr ?_ | refine st_load M ?_ | refine st_loadAgg M ?_ | refine st_load_old M ?_ | refine st_loadAgg_old M ?_ | refine st_idx_rowN M ?_ | refine st_idx_row M ?_ | refine st_idx_viewN ?_ | refine st_idx_view ?_ | refine st_ld_row M ?_ | refine st_ld_view M ?_ | refine st_str_row M ?_ | refine st_str_view M ?_ | refine st_slice_lo ?_ | refine st_slice_hi ?_ | refine st_slice_both ?_ | refine st_eq_slice_nil ?_ | refine st_eq_ptr_nil ?_ | refine st_box M fun g w1 M => ?_ | refine st_alloc M fun g w1 M => ?_ | refine st_build_struct ?_ | refine st_build_arr ?_ | refine st_store M fun w1 M => ?_ | refine st_storeAgg0 M fun w1 M => ?_ | refine st_buildSlice M fun g w1 M => ?_ | refine st_app_row M fun A' c' w1 M => ?_ | refine st_app_view M fun A' c' w1 M => ?_ | refine st_app_zeros M fun A' c' w1 M => ?_ | refine st_make M fun g w1 M => ?_ | refine st_arrptr ?_ | refine hq_nil ?_ | refine hq_then_normal ?_ | refine hq_seq ?_ | refine hq_region ?_ | refine hq_block ?_ | refine hq_skip ?_ | refine hq_ret ?_ | refine hq_exit ?_ | refine hq_then_ret ?_ | refine hq_then_exit ?_ | refine hq_blk_normal ?_ | refine hq_blk_ret ?_ | refine hq_blk_exit ?_ | refine hq_blk_exit_ne ?_ | refine hq_cond_true ?_ | refine hq_cond_false ?_ | refine st_extract ?_ | refine hq_guard_yes ?_ | refine hq_guard_no ?_ | refine hq_guard_un ?_ | refine st_pick ?_ | refine st_nilCheck ?_ | refine st_not ?_ | refine st_cmp_yes ?_ | refine st_cmp_no ?_ | refine st_add ?_ | refine st_sub ?_ | refine st_rem ?_ | refine st_quo ?_ | refine st_mul ?_ | refine st_mask ?_ | refine st_eqb_same ?_ | refine st_eqb ?_ | refine st_neb ?_ | refine st_rem_k ?_ | refine st_quo_k ?_ | refine st_add_k ?_ | refine st_mul_k ?_ | refine st_neg_k ?_ | refine st_conv ?_ | refine st_eqs_same ?_ | refine st_nes_same ?_ | refine st_eqbs ?_ | refine st_nebs ?_))
        refine st_callg0 M rfl (rget_spec r A c 14 bs 2 _ (M.blkOk r) (by omega) (by omega) (M.view hV) (M.far_view hV)) (fun _ w1 _ M => ?_)
        rw [g3.2.2] at M
        rw [g3.2.1, g3.1]
        (repeat (with_reducible first | refine st_move ?_ | refine st_assign ?_ | refine st_len ?_ | refine st_fieldAddr0 ?_ | refine st_fieldAddr ?_ | refine st_load M ?_ | refine st_loadAgg M ?_ | refine st_load_old M ?_ | refine st_loadAgg_old M ?_ | refine st_idx_rowN M ?_ | refine st_idx_row M ?_ | refine st_idx_viewN ?_ | refine st_idx_view ?_ | refine st_ld_row M ?_ | refine st_ld_view M ?_ | refine st_str_row M ?_ | refine st_str_view M ?_ | refine st_slice_lo ?_ | refine st_slice_hi ?_ | refine st_slice_both ?_ | refine st_eq_slice_nil ?_ | refine st_eq_ptr_nil ?_ | refine st_box M fun g w1 M => ?_ | refine st_alloc M fun g w1 M => ?_ | refine st_build_struct ?_ | refine st_build_arr ?_ | refine st_store M fun w1 M => ?_ | refine st_storeAgg0 M fun w1 M => ?_ | refine st_buildSlice M fun g w1 M => ?_ | refine st_app_row M fun A' c' w1 M => ?_ | refine st_app_view M fun A' c' w1 M => ?_ | refine st_app_zeros M fun A' c' w1 M => ?_ | refine st_make M fun g w1 M => ?_ | refine st_arrptr ?_ | refine hq_nil ?_ | refine hq_then_normal ?_ | refine hq_seq ?_ | refine hq_region ?_ | refine hq_block ?_ | refine hq_skip ?_ | refine hq_ret ?_ | refine hq_exit ?_ | refine hq_then_ret ?_ | refine hq_then_exit ?_ | refine hq_blk_normal ?_ | refine hq_blk_ret ?_ | refine hq_blk_exit ?_ | refine hq_blk_exit_ne ?_ | refine hq_cond_true ?_ | refine hq_cond_false ?_ | refine st_extract ?_ | refine hq_guard_yes ?_ | refine hq_guard_no ?_ | refine hq_guard_un ?_ | refine st_pick ?_ | refine st_nilCheck ?_ | refine st_not ?_ | refine st_cmp_yes ?_ | refine st_cmp_no ?_ | refine st_add ?_ | refine st_sub ?_ | refine st_rem ?_ | refine st_quo ?_ | refine st_mul ?_ | refine st_mask ?_ | refine st_eqb_same ?_ | refine st_eqb ?_ | refine st_neb ?_ | refine st_rem_k ?_ | refine st_quo_k ?_ | refine st_add_k ?_ | refine st_mul_k ?_ | refine st_neg_k ?_ | refine st_conv ?_ | refine st_eqs_same ?_ | refine st_nes_same ?_ | refine st_eqbs ?_ | refine st_nebs ?_))
        refine st_callg0 M rfl (rget_spec r A c 16 bs 2 _ (M.blkOk r) (by omega) (by omega) (M.view hV) (M.far_view hV)) (fun _ w1 _ M => ?_)
        rw [g4.2.2] at M
        rw [g4.2.1, g4.1]
        (repeat (with_reducible first | refine st_move ?_ | refine st_assign ?_ | refine st_len ?_ | refine st_fieldAddr0 ?_ | refine st_fieldAddr ?_ | refine st_load M ?_ | refine st_loadAgg M ?_ | refine st_load_old M ?_ | refine st_loadAgg_old M ?_ | refine st_idx_rowN M ?_ | refine st_idx_row M ?_ | refine st_idx_viewN ?_ | refine st_idx_view ?_ | refine st_ld_row M ?_ | refine st_ld_view M ?_ | refine st_str_row M ?_ | refine st_str_view M ?_ | refine st_slice_lo ?_ | refine st_slice_hi ?_ | refine st_slice_both ?_ | refine st_eq_slice_nil ?_ | refine st_eq_ptr_nil ?_ | refine st_box M fun g w1 M => ?_ | refine st_alloc M fun g w1 M => ?_ | refine st_build_struct ?_ | refine st_build_arr ?_ | refine st_store M fun w1 M => ?_ | refine st_storeAgg0 M fun w1 M => ?_ | refine st_buildSlice M fun g w1 M => ?_ | refine st_app_row M fun A' c' w1 M => ?_ | refine st_app_view M fun A' c' w1 M => ?_ | refine st_app_zeros M fun A' c' w1 M => ?_ | refine st_make M fun g w1 M => ?_ | refine st_arrptr ?_ | refine hq_nil ?_ | refine hq_then_normal ?_ | refine hq_seq ?_ | refine hq_region ?_ | refine hq_block ?_ | refine hq_skip ?_ | refine hq_ret ?_ | refine hq_exit ?_ | refine hq_then_ret ?_ | refine hq_then_exit ?_ | refine hq_blk_normal ?_ | refine hq_blk_ret ?_ | refine hq_blk_exit ?_ | refine hq_blk_exit_ne ?_ | refine hq_cond_true ?_ | refine hq_cond_false ?_ | refine st_extract ?_ | refine hq_guard_yes ?_ | refine hq_guard_no ?_ | refine hq_guard_un ?_ | refine st_pick ?_ | refine st_nilCheck ?_ | refine st_not ?_ | refine st_cmp_yes ?_ | refine st_cmp_no ?_ | refine st_add ?_ | refine st_sub ?_ | refine st_rem ?_ | refine st_quo ?_ | refine st_mul ?_ | refine st_mask ?_ | refine st_eqb_same ?_ | refine st_eqb ?_ | refine st_neb ?_ | refine st_rem_k ?_ | refine st_quo_k ?_ | refine st_add_k ?_ | refine st_mul_k ?_ | refine st_neg_k ?_ | refine st_conv ?_ | refine st_eqs_same ?_ | refine st_nes_same ?_ | refine st_eqbs ?_ | refine st_nebs ?_))
        refine st_callg0 M rfl (rget_spec r A c 18 bs 1 _ (M.blkOk r) (by omega) (by omega) (M.view hV) (M.far_view hV)) (fun _ w1 _ M => ?_)
        rw [g5.2.2] at M
        rw [g5.2.1, g5.1]
        by_cases h5 : rf bs 5 ≤ 44
        · have hVd : View w (cutA A c 20 1) (((bs.drop 20).take (rf bs 5)).map bv) := by
            have := hV.cut (cap := c) (lo := 20) (m := rf bs 5) (sz := 1) (fun h => by omega)
            rw [List.map_take, List.map_drop]
            exact this
          have hld : ((bs.drop 20).take (rf bs 5)).length = rf bs 5 := by simp; omega
          have hre := rd_eq bs hl h3 h5
          generalize hD : (bs.drop 20).take (rf bs 5) = D at *
          (repeat (with_reducible first | (refine st_slice_told 20 (rf bs 5) ?_) | (refine st_app_view M (ys := D.map bv) (fun A' c' w1 M => ?_) (hl := by rw [List.length_map, hld]; omega)) | refine st_move ?_ | refine st_assign ?_ | refine st_len ?_ | refine st_fieldAddr0 ?_ | refine st_fieldAddr ?_ | refine st_load M ?_ | refine st_loadAgg M ?_ | refine st_load_old M ?_ | refine st_loadAgg_old M ?_ | refine st_idx_rowN M ?_ | refine st_idx_row M ?_ | refine st_idx_viewN ?_ | refine st_idx_view ?_ | refine st_ld_row M ?_ | refine st_ld_view M ?_ | refine st_str_row M ?_ | refine st_str_view M ?_ | refine st_slice_lo ?_ | refine st_slice_hi ?_ | refine st_slice_both ?_ | refine st_eq_slice_nil ?_ | refine st_eq_ptr_nil ?_ | refine st_box M fun g w1 M => ?_ | refine st_alloc M fun g w1 M => ?_ | refine st_build_struct ?_ | refine st_build_arr ?_ | refine st_store M fun w1 M => ?_ | refine st_storeAgg0 M fun w1 M => ?_ | refine st_buildSlice M fun g w1 M => ?_ | refine st_app_row M fun A' c' w1 M => ?_ | refine st_app_view M fun A' c' w1 M => ?_ | refine st_app_zeros M fun A' c' w1 M => ?_ | refine st_make M fun g w1 M => ?_ | refine st_arrptr ?_ | refine hq_nil ?_ | refine hq_then_normal ?_ | refine hq_seq ?_ | refine hq_region ?_ | refine hq_block ?_ | refine hq_skip ?_ | refine hq_ret ?_ | refine hq_exit ?_ | refine hq_then_ret ?_ | refine hq_then_exit ?_ | refine hq_blk_normal ?_ | refine hq_blk_ret ?_ | refine hq_blk_exit ?_ | refine hq_blk_exit_ne ?_ | refine hq_cond_true ?_ | refine hq_cond_false ?_ | refine st_extract ?_ | refine hq_guard_yes ?_ | refine hq_guard_no ?_ | refine hq_guard_un ?_ | refine st_pick ?_ | refine st_nilCheck ?_ | refine st_not ?_ | refine st_cmp_yes ?_ | refine st_cmp_no ?_ | refine st_add ?_ | refine st_sub ?_ | refine st_rem ?_ | refine st_quo ?_ | refine st_mul ?_ | refine st_mask ?_ | refine st_eqb_same ?_ | refine st_eqb ?_ | refine st_neb ?_ | refine st_rem_k ?_ | refine st_quo_k ?_ | refine st_add_k ?_ | refine st_mul_k ?_ | refine st_neg_k ?_ | refine st_conv ?_ | refine st_eqs_same ?_ | refine st_nes_same ?_ | refine st_eqbs ?_ | refine st_nebs ?_))
          have M : Mem w [] [.blk g [.int .i64 (rf bs 1 : Int), .int .i64 (rf bs 2 : Int), .int .i64 (rf bs 3 : Int), .int .i64 (rf bs 4 : Int), .slice A' (rf bs 5) c'] 37, .row A' (rf bs 5) c' (D.map bv) 5 1, .blk q0 [.int .i64 0, .int .i64 0, .int .i64 0, .int .i64 0, .slice none 0 0] 37] w1 := by
            have h0 := M
            rw [Nat.zero_add] at h0
            exact h0.pick [.blk g [.int .i64 (rf bs 1 : Int), .int .i64 (rf bs 2 : Int), .int .i64 (rf bs 3 : Int), .int .i64 (rf bs 4 : Int), .slice A' (rf bs 5) c'] 37, .row A' (rf bs 5) c' (D.map bv) 5 1, .blk q0 [.int .i64 0, .int .i64 0, .int .i64 0, .int .i64 0, .slice none 0 0] 37] (h := @subLK _ _ _ (@subLK _ _ _ (@subLS _ _ _ (@subLK _ _ _ subL0))))
          rw [Nat.zero_add]
          refine st_callrr M rfl (rwrite_spec (rf bs 1 : Int) (rf bs 2 : Int) (rf bs 3 : Int) (rf bs 4 : Int) A' (rf bs 5) c' D _ (M.viewRow A' (rf bs 5) c') hld) fun x w1 M => ?_
          by_cases hp : mayP (rf bs 1 : Int) (rf bs 2 : Int) (rf bs 3 : Int) (rf bs 4 : Int) (rf bs 5)
          · have hp' : mayP (rf bs 1 : Int) (rf bs 2 : Int) (rf bs 3 : Int) (rf bs 4 : Int) D.length := by rw [hld]; exact hp
            rw [wrE, if_pos hp', wrV, if_pos hp']
            rw [wrV, if_pos hp'] at M
            simp only [Int.toNat_natCast] at M ⊢
            by_cases hb : secB (rf bs 1) (rf bs 2) (rf bs 3) (rf bs 4) D = bs
            · have hbb : (secB (rf bs 1) (rf bs 2) (rf bs 3) (rf bs 4) D == bs) = true := by rw [beq_iff_eq]; exact hb
              have he : rdE bs = 0 := by rw [hRd, if_neg h3', if_pos ⟨h5, (hre.1 hb).1, (hre.1 hb).2, hp⟩]
              obtain ⟨rn, rd⟩ := rd_ok he
              rw [hD] at rd
              (repeat (with_reducible first | refine st_move ?_ | refine st_assign ?_ | refine st_len ?_ | refine st_fieldAddr0 ?_ | refine st_fieldAddr ?_ | refine st_load M ?_ | refine st_loadAgg M ?_ | refine st_load_old M ?_ | refine st_loadAgg_old M ?_ | refine st_idx_rowN M ?_ | refine st_idx_row M ?_ | refine st_idx_viewN ?_ | refine st_idx_view ?_ | refine st_ld_row M ?_ | refine st_ld_view M ?_ | refine st_str_row M ?_ | refine st_str_view M ?_ | refine st_slice_lo ?_ | refine st_slice_hi ?_ | refine st_slice_both ?_ | refine st_eq_slice_nil ?_ | refine st_eq_ptr_nil ?_ | refine st_box M fun g w1 M => ?_ | refine st_alloc M fun g w1 M => ?_ | refine st_build_struct ?_ | refine st_build_arr ?_ | refine st_store M fun w1 M => ?_ | refine st_storeAgg0 M fun w1 M => ?_ | refine st_buildSlice M fun g w1 M => ?_ | refine st_app_row M fun A' c' w1 M => ?_ | refine st_app_view M fun A' c' w1 M => ?_ | refine st_app_zeros M fun A' c' w1 M => ?_ | refine st_make M fun g w1 M => ?_ | refine st_arrptr ?_ | refine hq_nil ?_ | refine hq_then_normal ?_ | refine hq_seq ?_ | refine hq_region ?_ | refine hq_block ?_ | refine hq_skip ?_ | refine hq_ret ?_ | refine hq_exit ?_ | refine hq_then_ret ?_ | refine hq_then_exit ?_ | refine hq_blk_normal ?_ | refine hq_blk_ret ?_ | refine hq_blk_exit ?_ | refine hq_blk_exit_ne ?_ | refine hq_cond_true ?_ | refine hq_cond_false ?_ | refine st_extract ?_ | refine hq_guard_yes ?_ | refine hq_guard_no ?_ | refine hq_guard_un ?_ | refine st_pick ?_ | refine st_nilCheck ?_ | refine st_not ?_ | refine st_cmp_yes ?_ | refine st_cmp_no ?_ | refine st_add ?_ | refine st_sub ?_ | refine st_rem ?_ | refine st_quo ?_ | refine st_mul ?_ | refine st_mask ?_ | refine st_eqb_same ?_ | refine st_eqb ?_ | refine st_neb ?_ | refine st_rem_k ?_ | refine st_quo_k ?_ | refine st_add_k ?_ | refine st_mul_k ?_ | refine st_neg_k ?_ | refine st_conv ?_ | refine st_eqs_same ?_ | refine st_nes_same ?_ | refine st_eqbs ?_ | refine st_nebs ?_))
              rw [hbb]
              (repeat (with_reducible first | refine st_move ?_ | refine st_assign ?_ | refine st_len ?_ | refine st_fieldAddr0 ?_ | refine st_fieldAddr ?_ | refine st_load M ?_ | refine st_loadAgg M ?_ | refine st_load_old M ?_ | refine st_loadAgg_old M ?_ | refine st_idx_rowN M ?_ | refine st_idx_row M ?_ | refine st_idx_viewN ?_ | refine st_idx_view ?_ | refine st_ld_row M ?_ | refine st_ld_view M ?_ | refine st_str_row M ?_ | refine st_str_view M ?_ | refine st_slice_lo ?_ | refine st_slice_hi ?_ | refine st_slice_both ?_ | refine st_eq_slice_nil ?_ | refine st_eq_ptr_nil ?_ | refine st_box M fun g w1 M => ?_ | refine st_alloc M fun g w1 M => ?_ | refine st_build_struct ?_ | refine st_build_arr ?_ | refine st_store M fun w1 M => ?_ | refine st_storeAgg0 M fun w1 M => ?_ | refine st_buildSlice M fun g w1 M => ?_ | refine st_app_row M fun A' c' w1 M => ?_ | refine st_app_view M fun A' c' w1 M => ?_ | refine st_app_zeros M fun A' c' w1 M => ?_ | refine st_make M fun g w1 M => ?_ | refine st_arrptr ?_ | refine hq_nil ?_ | refine hq_then_normal ?_ | refine hq_seq ?_ | refine hq_region ?_ | refine hq_block ?_ | refine hq_skip ?_ | refine hq_ret ?_ | refine hq_exit ?_ | refine hq_then_ret ?_ | refine hq_then_exit ?_ | refine hq_blk_normal ?_ | refine hq_blk_ret ?_ | refine hq_blk_exit ?_ | refine hq_blk_exit_ne ?_ | refine hq_cond_true ?_ | refine hq_cond_false ?_ | refine st_extract ?_ | refine hq_guard_yes ?_ | refine hq_guard_no ?_ | refine hq_guard_un ?_ | refine st_pick ?_ | refine st_nilCheck ?_ | refine st_not ?_ | refine st_cmp_yes ?_ | refine st_cmp_no ?_ | refine st_add ?_ | refine st_sub ?_ | refine st_rem ?_ | refine st_quo ?_ | refine st_mul ?_ | refine st_mask ?_ | refine st_eqb_same ?_ | refine st_eqb ?_ | refine st_neb ?_ | refine st_rem_k ?_ | refine st_quo_k ?_ | refine st_add_k ?_ | refine st_mul_k ?_ | refine st_neg_k ?_ | refine st_conv ?_ | refine st_eqs_same ?_ | refine st_nes_same ?_ | refine st_eqbs ?_ | refine st_nebs ?_))
              refine hq_endc1 M rfl ⟨(A', c'), ?_, ?_⟩
              · rw [rn 1, rn 2, rn 3, rn 4, rd, he, hld]
              · rw [rd, hld]; exact M.pick'
            · have hbb : (secB (rf bs 1) (rf bs 2) (rf bs 3) (rf bs 4) D == bs) = false := by rw [beq_eq_false_iff_ne]; exact hb
              have he : rdE bs = 3 := by rw [hRd, if_neg h3', if_neg (fun h : RdOk bs => hb (hre.2 ⟨h.2.1, h.2.2.1⟩))]
              (repeat (with_reducible first | refine st_move ?_ | refine st_assign ?_ | refine st_len ?_ | refine st_fieldAddr0 ?_ | refine st_fieldAddr ?_ | refine st_load M ?_ | refine st_loadAgg M ?_ | refine st_load_old M ?_ | refine st_loadAgg_old M ?_ | refine st_idx_rowN M ?_ | refine st_idx_row M ?_ | refine st_idx_viewN ?_ | refine st_idx_view ?_ | refine st_ld_row M ?_ | refine st_ld_view M ?_ | refine st_str_row M ?_ | refine st_str_view M ?_ | refine st_slice_lo ?_ | refine st_slice_hi ?_ | refine st_slice_both ?_ | refine st_eq_slice_nil ?_ | refine st_eq_ptr_nil ?_ | refine st_box M fun g w1 M => ?_ | refine st_alloc M fun g w1 M => ?_ | refine st_build_struct ?_ | refine st_build_arr ?_ | refine st_store M fun w1 M => ?_ | refine st_storeAgg0 M fun w1 M => ?_ | refine st_buildSlice M fun g w1 M => ?_ | refine st_app_row M fun A' c' w1 M => ?_ | refine st_app_view M fun A' c' w1 M => ?_ | refine st_app_zeros M fun A' c' w1 M => ?_ | refine st_make M fun g w1 M => ?_ | refine st_arrptr ?_ | refine hq_nil ?_ | refine hq_then_normal ?_ | refine hq_seq ?_ | refine hq_region ?_ | refine hq_block ?_ | refine hq_skip ?_ | refine hq_ret ?_ | refine hq_exit ?_ | refine hq_then_ret ?_ | refine hq_then_exit ?_ | refine hq_blk_normal ?_ | refine hq_blk_ret ?_ | refine hq_blk_exit ?_ | refine hq_blk_exit_ne ?_ | refine hq_cond_true ?_ | refine hq_cond_false ?_ | refine st_extract ?_ | refine hq_guard_yes ?_ | refine hq_guard_no ?_ | refine hq_guard_un ?_ | refine st_pick ?_ | refine st_nilCheck ?_ | refine st_not ?_ | refine st_cmp_yes ?_ | refine st_cmp_no ?_ | refine st_add ?_ | refine st_sub ?_ | refine st_rem ?_ | refine st_quo ?_ | refine st_mul ?_ | refine st_mask ?_ | refine st_eqb_same ?_ | refine st_eqb ?_ | refine st_neb ?_ | refine st_rem_k ?_ | refine st_quo_k ?_ | refine st_add_k ?_ | refine st_mul_k ?_ | refine st_neg_k ?_ | refine st_conv ?_ | refine st_eqs_same ?_ | refine st_nes_same ?_ | refine st_eqbs ?_ | refine st_nebs ?_))
              rw [hbb]
              have hnz : rdE bs ≠ 0 := by rw [he]; decide
              obtain ⟨rn, rd⟩ := rd_err hnz
              (repeat (with_reducible first | refine st_move ?_ | refine st_assign ?_ | refine st_len ?_ | refine st_fieldAddr0 ?_ | refine st_fieldAddr ?_ | refine st_load M ?_ | refine st_loadAgg M ?_ | refine st_load_old M ?_ | refine st_loadAgg_old M ?_ | refine st_idx_rowN M ?_ | refine st_idx_row M ?_ | refine st_idx_viewN ?_ | refine st_idx_view ?_ | refine st_ld_row M ?_ | refine st_ld_view M ?_ | refine st_str_row M ?_ | refine st_str_view M ?_ | refine st_slice_lo ?_ | refine st_slice_hi ?_ | refine st_slice_both ?_ | refine st_eq_slice_nil ?_ | refine st_eq_ptr_nil ?_ | refine st_box M fun g w1 M => ?_ | refine st_alloc M fun g w1 M => ?_ | refine st_build_struct ?_ | refine st_build_arr ?_ | refine st_store M fun w1 M => ?_ | refine st_storeAgg0 M fun w1 M => ?_ | refine st_buildSlice M fun g w1 M => ?_ | refine st_app_row M fun A' c' w1 M => ?_ | refine st_app_view M fun A' c' w1 M => ?_ | refine st_app_zeros M fun A' c' w1 M => ?_ | refine st_make M fun g w1 M => ?_ | refine st_arrptr ?_ | refine hq_nil ?_ | refine hq_then_normal ?_ | refine hq_seq ?_ | refine hq_region ?_ | refine hq_block ?_ | refine hq_skip ?_ | refine hq_ret ?_ | refine hq_exit ?_ | refine hq_then_ret ?_ | refine hq_then_exit ?_ | refine hq_blk_normal ?_ | refine hq_blk_ret ?_ | refine hq_blk_exit ?_ | refine hq_blk_exit_ne ?_ | refine hq_cond_true ?_ | refine hq_cond_false ?_ | refine st_extract ?_ | refine hq_guard_yes ?_ | refine hq_guard_no ?_ | refine hq_guard_un ?_ | refine st_pick ?_ | refine st_nilCheck ?_ | refine st_not ?_ | refine st_cmp_yes ?_ | refine st_cmp_no ?_ | refine st_add ?_ | refine st_sub ?_ | refine st_rem ?_ | refine st_quo ?_ | refine st_mul ?_ | refine st_mask ?_ | refine st_eqb_same ?_ | refine st_eqb ?_ | refine st_neb ?_ | refine st_rem_k ?_ | refine st_quo_k ?_ | refine st_add_k ?_ | refine st_mul_k ?_ | refine st_neg_k ?_ | refine st_conv ?_ | refine st_eqs_same ?_ | refine st_nes_same ?_ | refine st_eqbs ?_ | refine st_nebs ?_))
              refine hq_endc1 M rfl ⟨(none, 0), ?_, ?_⟩
              · rw [rn 1, rn 2, rn 3, rn 4, rd, he]; rfl
              · rw [rd]; exact M.dropAll.nilRow _ _
          · have hp' : ¬ mayP (rf bs 1 : Int) (rf bs 2 : Int) (rf bs 3 : Int) (rf bs 4 : Int) D.length := by rw [hld]; exact hp
            have he : rdE bs = 3 := by rw [hRd, if_neg h3', if_neg (fun h : RdOk bs => hp h.2.2.2)]
            rw [wrE, if_neg hp', wrV, if_neg hp']
            have hnz : rdE bs ≠ 0 := by rw [he]; decide
            obtain ⟨rn, rd⟩ := rd_err hnz
            (repeat (with_reducible first | refine st_move ?_ | refine st_assign ?_ | refine st_len ?_ | refine st_fieldAddr0 ?_ | refine st_fieldAddr ?_ | refine st_load M ?_ | refine st_loadAgg M ?_ | refine st_load_old M ?_ | refine st_loadAgg_old M ?_ | refine st_idx_rowN M ?_ | refine st_idx_row M ?_ | refine st_idx_viewN ?_ | refine st_idx_view ?_ | refine st_ld_row M ?_ | refine st_ld_view M ?_ | refine st_str_row M ?_ | refine st_str_view M ?_ | refine st_slice_lo ?_ | refine st_slice_hi ?_ | refine st_slice_both ?_ | refine st_eq_slice_nil ?_ | refine st_eq_ptr_nil ?_ | refine st_box M fun g w1 M => ?_ | refine st_alloc M fun g w1 M => ?_ | refine st_build_struct ?_ | refine st_build_arr ?_ | refine st_store M fun w1 M => ?_ | refine st_storeAgg0 M fun w1 M => ?_ | refine st_buildSlice M fun g w1 M => ?_ | refine st_app_row M fun A' c' w1 M => ?_ | refine st_app_view M fun A' c' w1 M => ?_ | refine st_app_zeros M fun A' c' w1 M => ?_ | refine st_make M fun g w1 M => ?_ | refine st_arrptr ?_ | refine hq_nil ?_ | refine hq_then_normal ?_ | refine hq_seq ?_ | refine hq_region ?_ | refine hq_block ?_ | refine hq_skip ?_ | refine hq_ret ?_ | refine hq_exit ?_ | refine hq_then_ret ?_ | refine hq_then_exit ?_ | refine hq_blk_normal ?_ | refine hq_blk_ret ?_ | refine hq_blk_exit ?_ | refine hq_blk_exit_ne ?_ | refine hq_cond_true ?_ | refine hq_cond_false ?_ | refine st_extract ?_ | refine hq_guard_yes ?_ | refine hq_guard_no ?_ | refine hq_guard_un ?_ | refine st_pick ?_ | refine st_nilCheck ?_ | refine st_not ?_ | refine st_cmp_yes ?_ | refine st_cmp_no ?_ | refine st_add ?_ | refine st_sub ?_ | refine st_rem ?_ | refine st_quo ?_ | refine st_mul ?_ | refine st_mask ?_ | refine st_eqb_same ?_ | refine st_eqb ?_ | refine st_neb ?_ | refine st_rem_k ?_ | refine st_quo_k ?_ | refine st_add_k ?_ | refine st_mul_k ?_ | refine st_neg_k ?_ | refine st_conv ?_ | refine st_eqs_same ?_ | refine st_nes_same ?_ | refine st_eqbs ?_ | refine st_nebs ?_))
            refine hq_endc1 M rfl ⟨(none, 0), ?_, ?_⟩
            · rw [rn 1, rn 2, rn 3, rn 4, rd, he]; rfl
            · rw [rd]; exact M.dropAll.nilRow _ _
        · have he : rdE bs = 3 := by rw [hRd, if_neg h3', if_neg (fun h : RdOk bs => h5 h.1)]
          have hnz : rdE bs ≠ 0 := by rw [he]; decide
          obtain ⟨rn, rd⟩ := rd_err hnz
          (repeat (with_reducible first | refine st_move ?_ | refine st_assign ?_ | refine st_len ?_ | refine st_fieldAddr0 ?_ | refine st_fieldAddr ?_ | refine st_load M ?_ | refine st_loadAgg M ?_ | refine st_load_old M ?_ | refine st_loadAgg_old M ?_ | refine st_idx_rowN M ?_ | refine st_idx_row M ?_ | refine st_idx_viewN ?_ | refine st_idx_view ?_ | refine st_ld_row M ?_ | refine st_ld_view M ?_ | refine st_str_row M ?_ | refine st_str_view M ?_ | refine st_slice_lo ?_ | refine st_slice_hi ?_ | refine st_slice_both ?_ | refine st_eq_slice_nil ?_ | refine st_eq_ptr_nil ?_ | refine st_box M fun g w1 M => ?_ | refine st_alloc M fun g w1 M => ?_ | refine st_build_struct ?_ | refine st_build_arr ?_ | refine st_store M fun w1 M => ?_ | refine st_storeAgg0 M fun w1 M => ?_ | refine st_buildSlice M fun g w1 M => ?_ | refine st_app_row M fun A' c' w1 M => ?_ | refine st_app_view M fun A' c' w1 M => ?_ | refine st_app_zeros M fun A' c' w1 M => ?_ | refine st_make M fun g w1 M => ?_ | refine st_arrptr ?_ | refine hq_nil ?_ | refine hq_then_normal ?_ | refine hq_seq ?_ | refine hq_region ?_ | refine hq_block ?_ | refine hq_skip ?_ | refine hq_ret ?_ | refine hq_exit ?_ | refine hq_then_ret ?_ | refine hq_then_exit ?_ | refine hq_blk_normal ?_ | refine hq_blk_ret ?_ | refine hq_blk_exit ?_ | refine hq_blk_exit_ne ?_ | refine hq_cond_true ?_ | refine hq_cond_false ?_ | refine st_extract ?_ | refine hq_guard_yes ?_ | refine hq_guard_no ?_ | refine hq_guard_un ?_ | refine st_pick ?_ | refine st_nilCheck ?_ | refine st_not ?_ | refine st_cmp_yes ?_ | refine st_cmp_no ?_ | refine st_add ?_ | refine st_sub ?_ | refine st_rem ?_ | refine st_quo ?_ | refine st_mul ?_ | refine st_mask ?_ | refine st_eqb_same ?_ | refine st_eqb ?_ | refine st_neb ?_ | refine st_rem_k ?_ | refine st_quo_k ?_ | refine st_add_k ?_ | refine st_mul_k ?_ | refine st_neg_k ?_ | refine st_conv ?_ | refine st_eqs_same ?_ | refine st_nes_same ?_ | refine st_eqbs ?_ | refine st_nebs ?_))
          refine hq_endc1 M rfl ⟨(none, 0), ?_, ?_⟩
          · rw [rn 1, rn 2, rn 3, rn 4, rd, he]; rfl
          · rw [rd]; exact M.dropAll.nilRow _ _
      · have he : rdE bs = 4 := by rw [hRd, if_pos h3]
        have hnz : rdE bs ≠ 0 := by rw [he]; decide
        obtain ⟨rn, rd⟩ := rd_err hnz
        (repeat (with_reducible first | refine st_move ?_ | refine st_assign ?_ | refine st_len ?_ | refine st_fieldAddr0 ?_ | refine st_fieldAddr ?_ | refine st_load M ?_ | refine st_loadAgg M ?_ | refine st_load_old M ?_ | refine st_loadAgg_old M ?_ | refine st_idx_rowN M ?_ | refine st_idx_row M ?_ | refine st_idx_viewN ?_ | refine st_idx_view ?_ | refine st_ld_row M ?_ | refine st_ld_view M ?_ | refine st_str_row M ?_ | refine st_str_view M ?_ | refine st_slice_lo ?_ | refine st_slice_hi ?_ | refine st_slice_both ?_ | refine st_eq_slice_nil ?_ | refine st_eq_ptr_nil ?_ | refine st_box M fun g w1 M => ?_ | refine st_alloc M fun g w1 M => ?_ | refine st_build_struct ?_ | refine st_build_arr ?_ | refine st_store M fun w1 M => ?_ | refine st_storeAgg0 M fun w1 M => ?_ | refine st_buildSlice M fun g w1 M => ?_ | refine st_app_row M fun A' c' w1 M => ?_ | refine st_app_view M fun A' c' w1 M => ?_ | refine st_app_zeros M fun A' c' w1 M => ?_ | refine st_make M fun g w1 M => ?_ | refine st_arrptr ?_ | refine hq_nil ?_ | refine hq_then_normal ?_ | refine hq_seq ?_ | refine hq_region ?_ | refine hq_block ?_ | refine hq_skip ?_ | refine hq_ret ?_ | refine hq_exit ?_ | refine hq_then_ret ?_ | refine hq_then_exit ?_ | refine hq_blk_normal ?_ | refine hq_blk_ret ?_ | refine hq_blk_exit ?_ | refine hq_blk_exit_ne ?_ | refine hq_cond_true ?_ | refine hq_cond_false ?_ | refine st_extract ?_ | refine hq_guard_yes ?_ | refine hq_guard_no ?_ | refine hq_guard_un ?_ | refine st_pick ?_ | refine st_nilCheck ?_ | refine st_not ?_ | refine st_cmp_yes ?_ | refine st_cmp_no ?_ | refine st_add ?_ | refine st_sub ?_ | refine st_rem ?_ | refine st_quo ?_ | refine st_mul ?_ | refine st_mask ?_ | refine st_eqb_same ?_ | refine st_eqb ?_ | refine st_neb ?_ | refine st_rem_k ?_ | refine st_quo_k ?_ | refine st_add_k ?_ | refine st_mul_k ?_ | refine st_neg_k ?_ | refine st_conv ?_ | refine st_eqs_same ?_ | refine st_nes_same ?_ | refine st_eqbs ?_ | refine st_nebs ?_))
        refine hq_endc1 M rfl ⟨(none, 0), ?_, ?_⟩
        · rw [rn 1, rn 2, rn 3, rn 4, rd, he]; rfl
        · rw [rd]; exact M.dropAll.nilRow _ _
end Go.Proofs.YtemhbpgjnhdchaaDoor
