/-
  Contracts: bytes' Trim of zeros.
-/
import Derived.Test.YtemhbpgjnhdchaaDoorFa
set_option linter.unusedVariables false
namespace Go.Proofs.YtemhbpgjnhdchaaDoor
open Go Go.RowKit Sx

def nil0 (bs : List UInt8) : Bool := bs.all (· == 0)
/-- How many bytes are left without the zeros behind. -/
def trn : List UInt8 → Nat
  | [] => 0
  | b :: bs => if nil0 (b :: bs) then 0 else trn bs + 1
theorem trn_le : ∀ (bs : List UInt8), trn bs ≤ bs.length
  | [] => Nat.le_refl _
  | b :: bs => by
    have := trn_le bs
    unfold trn
    split
    · omega
    · simp only [List.length_cons]; omega
theorem trn_zero (bs : List UInt8) : trn bs = 0 ↔ nil0 bs = true := by
  cases bs with
  | nil => simp [trn, nil0]
  | cons b bs =>
    unfold trn
    split
    · rename_i h; simp [h]
    · rename_i h; simp [h]
theorem trn_snoc (bs : List UInt8) (b : UInt8) (h : b = 0) : trn (bs ++ [b]) = trn bs := by
  induction bs with
  | nil => subst h; rfl
  | cons x bs ih =>
    have e : nil0 ((x :: bs) ++ [b]) = nil0 (x :: bs) := by subst h; simp [nil0]
    simp only [List.cons_append] at e ⊢
    unfold trn
    rw [e, ih]
theorem trn_keep (bs : List UInt8) (b : UInt8) (h : b ≠ 0) : trn (bs ++ [b]) = bs.length + 1 := by
  induction bs with
  | nil => simp [trn, nil0, h]
  | cons x bs ih =>
    simp only [List.cons_append]
    unfold trn
    rw [if_neg (by simp [nil0, h]), ih]
    rfl
theorem trn_last : ∀ (bs : List UInt8), 0 < trn bs → bs.getD (trn bs - 1) default ≠ 0
  | [], h => by simp [trn] at h
  | b :: bs, h => by
    unfold trn at h ⊢
    by_cases e : nil0 (b :: bs) = true
    · rw [if_pos e] at h; omega
    · rw [if_neg e]
      rw [Nat.add_sub_cancel]
      rcases Nat.eq_zero_or_pos (trn bs) with h0 | h0
      · rw [h0]
        have h1 := (trn_zero bs).1 h0
        intro hb
        apply e
        simp only [nil0, List.all_cons, Bool.and_eq_true, beq_iff_eq] at h1 ⊢
        exact ⟨by simpa using hb, h1⟩
      · have := trn_last bs h0
        obtain ⟨k, hk⟩ : ∃ k, trn bs = k + 1 := ⟨trn bs - 1, by omega⟩
        rw [hk] at this ⊢
        simpa using this
set_option maxRecDepth 100000 in
set_option maxHeartbeats 2000000 in
theorem trimr_spec (A : Option Addr) (m c : Nat) (bs : List UInt8) (w : World) (hV : View w A (bs.map bv)) (hl : bs.length = m) (hmc : m ≤ c) (hm : m ≤ 140737488351232) :
    Calls Tryd.prog 42 #[.slice A m c, .int .u8 0] w (RetV w (.slice A (trn bs) c)) := by
  have M := Mem.refl w
  refine enter ?_
  (repeat (with_reducible first | refine st_move ?_ | refine st_assign ?_ | refine st_len ?_ | refine st_fieldAddr0 ?_ | refine st_fieldAddr ?_ | refine st_load M ?_ | refine st_loadAgg M ?_ | refine st_load_old M ?_ | refine st_loadAgg_old M ?_ | refine st_idx_rowN M ?_ | refine st_idx_row M ?_ | refine st_idx_viewN ?_ | refine st_idx_view ?_ | refine st_ld_row M ?_ | refine st_ld_view M ?_ | refine st_str_row M ?_ | refine st_str_view M ?_ | refine st_slice_lo ?_ | refine st_slice_hi ?_ | refine st_slice_both ?_ | refine st_eq_slice_nil ?_ | refine st_eq_ptr_nil ?_ | refine st_box M fun g w1 M => ?_ | refine st_alloc M fun g w1 M => ?_ | refine st_build_struct ?_ | refine st_build_arr ?_ | refine st_store M fun w1 M => ?_ | refine st_storeAgg0 M fun w1 M => ?_ | refine st_buildSlice M fun g w1 M => ?_ | refine st_app_row M fun A' c' w1 M => ?_ | refine st_app_view M fun A' c' w1 M => ?_ | refine st_app_zeros M fun A' c' w1 M => ?_ | refine st_make M fun g w1 M => ?_ | refine st_arrptr ?_ | refine hq_nil ?_ | refine hq_then_normal ?_ | refine hq_seq ?_ | refine hq_region ?_ | refine hq_block ?_ | refine hq_skip ?_ | refine hq_ret ?_ | refine hq_exit ?_ | refine hq_then_ret ?_ | refine hq_then_exit ?_ | refine hq_blk_normal ?_ | refine hq_blk_ret ?_ | refine hq_blk_exit ?_ | refine hq_blk_exit_ne ?_ | refine hq_cond_true ?_ | refine hq_cond_false ?_ | refine st_extract ?_ | refine hq_guard_yes ?_ | refine hq_guard_no ?_ | refine hq_guard_un ?_ | refine st_pick ?_ | refine st_nilCheck ?_ | refine st_not ?_ | refine st_cmp_yes ?_ | refine st_cmp_no ?_ | refine st_add ?_ | refine st_sub ?_ | refine st_rem ?_ | refine st_quo ?_ | refine st_mul ?_ | refine st_mask ?_ | refine st_eqb_same ?_ | refine st_eqb ?_ | refine st_neb ?_ | refine st_rem_k ?_ | refine st_quo_k ?_ | refine st_add_k ?_ | refine st_mul_k ?_ | refine st_neg_k ?_ | refine st_conv ?_ | refine st_eqs_same ?_ | refine st_nes_same ?_ | refine st_eqbs ?_ | refine st_nebs ?_))
  refine hq_loop (ι := Nat) (fun j => [(0, .slice A j c), (1, .int .u8 0)]) (fun j wr => j ≤ m ∧ trn (bs.take j) = trn bs ∧ Mem w [] [] wr) (fun j _ => j) m ⟨Nat.le_refl _, by rw [List.take_of_length_le (by omega)], M⟩ ?_
  rintro j wr ⟨hj, ht, M⟩
  by_cases h0 : j = 0
  · subst h0
    (repeat (with_reducible first | refine st_move ?_ | refine st_assign ?_ | refine st_len ?_ | refine st_fieldAddr0 ?_ | refine st_fieldAddr ?_ | refine st_load M ?_ | refine st_loadAgg M ?_ | refine st_load_old M ?_ | refine st_loadAgg_old M ?_ | refine st_idx_rowN M ?_ | refine st_idx_row M ?_ | refine st_idx_viewN ?_ | refine st_idx_view ?_ | refine st_ld_row M ?_ | refine st_ld_view M ?_ | refine st_str_row M ?_ | refine st_str_view M ?_ | refine st_slice_lo ?_ | refine st_slice_hi ?_ | refine st_slice_both ?_ | refine st_eq_slice_nil ?_ | refine st_eq_ptr_nil ?_ | refine st_box M fun g w1 M => ?_ | refine st_alloc M fun g w1 M => ?_ | refine st_build_struct ?_ | refine st_build_arr ?_ | refine st_store M fun w1 M => ?_ | refine st_storeAgg0 M fun w1 M => ?_ | refine st_buildSlice M fun g w1 M => ?_ | refine st_app_row M fun A' c' w1 M => ?_ | refine st_app_view M fun A' c' w1 M => ?_ | refine st_app_zeros M fun A' c' w1 M => ?_ | refine st_make M fun g w1 M => ?_ | refine st_arrptr ?_ | refine hq_nil ?_ | refine hq_then_normal ?_ | refine hq_seq ?_ | refine hq_region ?_ | refine hq_block ?_ | refine hq_skip ?_ | refine hq_ret ?_ | refine hq_exit ?_ | refine hq_then_ret ?_ | refine hq_then_exit ?_ | refine hq_blk_normal ?_ | refine hq_blk_ret ?_ | refine hq_blk_exit ?_ | refine hq_blk_exit_ne ?_ | refine hq_cond_true ?_ | refine hq_cond_false ?_ | refine st_extract ?_ | refine hq_guard_yes ?_ | refine hq_guard_no ?_ | refine hq_guard_un ?_ | refine st_pick ?_ | refine st_nilCheck ?_ | refine st_not ?_ | refine st_cmp_yes ?_ | refine st_cmp_no ?_ | refine st_add ?_ | refine st_sub ?_ | refine st_rem ?_ | refine st_quo ?_ | refine st_mul ?_ | refine st_mask ?_ | refine st_eqb_same ?_ | refine st_eqb ?_ | refine st_neb ?_ | refine st_rem_k ?_ | refine st_quo_k ?_ | refine st_add_k ?_ | refine st_mul_k ?_ | refine st_neg_k ?_ | refine st_conv ?_ | refine st_eqs_same ?_ | refine st_nes_same ?_ | refine st_eqbs ?_ | refine st_nebs ?_))
    refine hq_end1 ⟨?_, M⟩
    rw [← ht]
    rfl
  · obtain ⟨i, rfl⟩ : ∃ i, j = i + 1 := ⟨j - 1, by omega⟩
    have hts := take_snoc bs i (by omega)
    have ei : (((i + 1 : Nat) : Int) - 1).toNat = i := by omega
    have hb8 := (bs.getD i default).toNat_lt
    by_cases hz : bs.getD i default = 0
    · have hz' : (bs.getD (((i + 1 : Nat) : Int) - 1).toNat default).toNat = 0 := by rw [ei, hz]; rfl
      (repeat (with_reducible first | refine st_move ?_ | refine st_assign ?_ | refine st_len ?_ | refine st_fieldAddr0 ?_ | refine st_fieldAddr ?_ | refine st_load M ?_ | refine st_loadAgg M ?_ | refine st_load_old M ?_ | refine st_loadAgg_old M ?_ | refine st_idx_rowN M ?_ | refine st_idx_row M ?_ | refine st_idx_viewN ?_ | refine st_idx_view ?_ | refine st_ld_row M ?_ | refine st_ld_view M ?_ | refine st_str_row M ?_ | refine st_str_view M ?_ | refine st_slice_lo ?_ | refine st_slice_hi ?_ | refine st_slice_both ?_ | refine st_eq_slice_nil ?_ | refine st_eq_ptr_nil ?_ | refine st_box M fun g w1 M => ?_ | refine st_alloc M fun g w1 M => ?_ | refine st_build_struct ?_ | refine st_build_arr ?_ | refine st_store M fun w1 M => ?_ | refine st_storeAgg0 M fun w1 M => ?_ | refine st_buildSlice M fun g w1 M => ?_ | refine st_app_row M fun A' c' w1 M => ?_ | refine st_app_view M fun A' c' w1 M => ?_ | refine st_app_zeros M fun A' c' w1 M => ?_ | refine st_make M fun g w1 M => ?_ | refine st_arrptr ?_ | refine hq_nil ?_ | refine hq_then_normal ?_ | refine hq_seq ?_ | refine hq_region ?_ | refine hq_block ?_ | refine hq_skip ?_ | refine hq_ret ?_ | refine hq_exit ?_ | refine hq_then_ret ?_ | refine hq_then_exit ?_ | refine hq_blk_normal ?_ | refine hq_blk_ret ?_ | refine hq_blk_exit ?_ | refine hq_blk_exit_ne ?_ | refine hq_cond_true ?_ | refine hq_cond_false ?_ | refine st_extract ?_ | refine hq_guard_yes ?_ | refine hq_guard_no ?_ | refine hq_guard_un ?_ | refine st_pick ?_ | refine st_nilCheck ?_ | refine st_not ?_ | refine st_cmp_yes ?_ | refine st_cmp_no ?_ | refine st_add ?_ | refine st_sub ?_ | refine st_rem ?_ | refine st_quo ?_ | refine st_mul ?_ | refine st_mask ?_ | refine st_eqb_same ?_ | refine st_eqb ?_ | refine st_neb ?_ | refine st_rem_k ?_ | refine st_quo_k ?_ | refine st_add_k ?_ | refine st_mul_k ?_ | refine st_neg_k ?_ | refine st_conv ?_ | refine st_eqs_same ?_ | refine st_nes_same ?_ | refine st_eqbs ?_ | refine st_nebs ?_))
      rw [cutA0, ei]
      refine hq_round i ⟨by omega, ?_, M⟩
      rw [← ht, hts, trn_snoc _ _ hz]
    · have hz' : (bs.getD (((i + 1 : Nat) : Int) - 1).toNat default).toNat ≠ 0 := by rw [ei]; exact fun e => hz (UInt8.toNat_inj.1 (by rw [e]; rfl))
      (repeat (with_reducible first | refine st_move ?_ | refine st_assign ?_ | refine st_len ?_ | refine st_fieldAddr0 ?_ | refine st_fieldAddr ?_ | refine st_load M ?_ | refine st_loadAgg M ?_ | refine st_load_old M ?_ | refine st_loadAgg_old M ?_ | refine st_idx_rowN M ?_ | refine st_idx_row M ?_ | refine st_idx_viewN ?_ | refine st_idx_view ?_ | refine st_ld_row M ?_ | refine st_ld_view M ?_ | refine st_str_row M ?_ | refine st_str_view M ?_ | refine st_slice_lo ?_ | refine st_slice_hi ?_ | refine st_slice_both ?_ | refine st_eq_slice_nil ?_ | refine st_eq_ptr_nil ?_ | refine st_box M fun g w1 M => ?_ | refine st_alloc M fun g w1 M => ?_ | refine st_build_struct ?_ | refine st_build_arr ?_ | refine st_store M fun w1 M => ?_ | refine st_storeAgg0 M fun w1 M => ?_ | refine st_buildSlice M fun g w1 M => ?_ | refine st_app_row M fun A' c' w1 M => ?_ | refine st_app_view M fun A' c' w1 M => ?_ | refine st_app_zeros M fun A' c' w1 M => ?_ | refine st_make M fun g w1 M => ?_ | refine st_arrptr ?_ | refine hq_nil ?_ | refine hq_then_normal ?_ | refine hq_seq ?_ | refine hq_region ?_ | refine hq_block ?_ | refine hq_skip ?_ | refine hq_ret ?_ | refine hq_exit ?_ | refine hq_then_ret ?_ | refine hq_then_exit ?_ | refine hq_blk_normal ?_ | refine hq_blk_ret ?_ | refine hq_blk_exit ?_ | refine hq_blk_exit_ne ?_ | refine hq_cond_true ?_ | refine hq_cond_false ?_ | refine st_extract ?_ | refine hq_guard_yes ?_ | refine hq_guard_no ?_ | refine hq_guard_un ?_ | refine st_pick ?_ | refine st_nilCheck ?_ | refine st_not ?_ | refine st_cmp_yes ?_ | refine st_cmp_no ?_ | refine st_add ?_ | refine st_sub ?_ | refine st_rem ?_ | refine st_quo ?_ | refine st_mul ?_ | refine st_mask ?_ | refine st_eqb_same ?_ | refine st_eqb ?_ | refine st_neb ?_ | refine st_rem_k ?_ | refine st_quo_k ?_ | refine st_add_k ?_ | refine st_mul_k ?_ | refine st_neg_k ?_ | refine st_conv ?_ | refine st_eqs_same ?_ | refine st_nes_same ?_ | refine st_eqbs ?_ | refine st_nebs ?_))
      refine hq_end1 ⟨?_, M⟩
      rw [← ht, hts, trn_keep _ _ hz, List.length_take, Nat.min_eq_left (by omega)]

/-- How many zeros stand ahead. -/
def lz : List UInt8 → Nat
  | [] => 0
  | b :: bs => if b = 0 then lz bs + 1 else 0
theorem lz_le : ∀ (bs : List UInt8), lz bs ≤ bs.length
  | [] => Nat.le_refl _
  | b :: bs => by
    have := lz_le bs
    unfold lz
    split <;> simp only [List.length_cons] <;> omega
theorem lz_all : ∀ (bs : List UInt8), lz bs = bs.length ↔ nil0 bs = true
  | [] => by simp [lz, nil0]
  | b :: bs => by
    have := lz_all bs
    unfold lz
    by_cases h : b = 0
    · rw [if_pos h]
      simp [nil0, h] at this ⊢
      exact this
    · rw [if_neg h]
      simp [nil0, h]
theorem lz_drop : ∀ (bs : List UInt8) (i : Nat), i < lz bs → bs.getD i default = 0
  | b :: bs, 0, h => by
    unfold lz at h
    split at h
    · rename_i e; simpa using e
    · omega
  | b :: bs, i + 1, h => by
    unfold lz at h
    split at h
    · have := lz_drop bs i (by omega)
      simpa using this
    · omega
theorem lz_stop : ∀ (bs : List UInt8), lz bs < bs.length → bs.getD (lz bs) default ≠ 0
  | [], h => by simp [lz] at h
  | b :: bs, h => by
    unfold lz at h ⊢
    by_cases e : b = 0
    · rw [if_pos e] at h ⊢
      have := lz_stop bs (by simp only [List.length_cons] at h; omega)
      simpa using this
    · rw [if_neg e]
      simpa using e
set_option maxRecDepth 100000 in
set_option maxHeartbeats 2000000 in
theorem triml_spec (A : Option Addr) (m c : Nat) (bs : List UInt8) (w : World) (hV : View w A (bs.map bv)) (hl : bs.length = m) (hmc : m ≤ c) (hm : m ≤ 140737488351232) :
    Calls Tryd.prog 41 #[.slice A m c, .int .u8 0] w (RetV w (if lz bs < m then .slice (A.map (·.add (lz bs))) (m - lz bs) (c - lz bs) else .slice none 0 0)) := by
  have M := Mem.refl w
  refine enter ?_
  have hle := lz_le bs
  (repeat (with_reducible first | refine st_move ?_ | refine st_assign ?_ | refine st_len ?_ | refine st_fieldAddr0 ?_ | refine st_fieldAddr ?_ | refine st_load M ?_ | refine st_loadAgg M ?_ | refine st_load_old M ?_ | refine st_loadAgg_old M ?_ | refine st_idx_rowN M ?_ | refine st_idx_row M ?_ | refine st_idx_viewN ?_ | refine st_idx_view ?_ | refine st_ld_row M ?_ | refine st_ld_view M ?_ | refine st_str_row M ?_ | refine st_str_view M ?_ | refine st_slice_lo ?_ | refine st_slice_hi ?_ | refine st_slice_both ?_ | refine st_eq_slice_nil ?_ | refine st_eq_ptr_nil ?_ | refine st_box M fun g w1 M => ?_ | refine st_alloc M fun g w1 M => ?_ | refine st_build_struct ?_ | refine st_build_arr ?_ | refine st_store M fun w1 M => ?_ | refine st_storeAgg0 M fun w1 M => ?_ | refine st_buildSlice M fun g w1 M => ?_ | refine st_app_row M fun A' c' w1 M => ?_ | refine st_app_view M fun A' c' w1 M => ?_ | refine st_app_zeros M fun A' c' w1 M => ?_ | refine st_make M fun g w1 M => ?_ | refine st_arrptr ?_ | refine hq_nil ?_ | refine hq_then_normal ?_ | refine hq_seq ?_ | refine hq_region ?_ | refine hq_block ?_ | refine hq_skip ?_ | refine hq_ret ?_ | refine hq_exit ?_ | refine hq_then_ret ?_ | refine hq_then_exit ?_ | refine hq_blk_normal ?_ | refine hq_blk_ret ?_ | refine hq_blk_exit ?_ | refine hq_blk_exit_ne ?_ | refine hq_cond_true ?_ | refine hq_cond_false ?_ | refine st_extract ?_ | refine hq_guard_yes ?_ | refine hq_guard_no ?_ | refine hq_guard_un ?_ | refine st_pick ?_ | refine st_nilCheck ?_ | refine st_not ?_ | refine st_cmp_yes ?_ | refine st_cmp_no ?_ | refine st_add ?_ | refine st_sub ?_ | refine st_rem ?_ | refine st_quo ?_ | refine st_mul ?_ | refine st_mask ?_ | refine st_eqb_same ?_ | refine st_eqb ?_ | refine st_neb ?_ | refine st_rem_k ?_ | refine st_quo_k ?_ | refine st_add_k ?_ | refine st_mul_k ?_ | refine st_neg_k ?_ | refine st_conv ?_ | refine st_eqs_same ?_ | refine st_nes_same ?_ | refine st_eqbs ?_ | refine st_nebs ?_))
  refine hq_loop (ι := Nat × (Option Addr × Nat × Nat)) (fun x => [(0, .slice x.2.1 x.2.2.1 x.2.2.2), (1, .int .u8 0)]) (fun x wr => x.1 ≤ lz bs ∧ RdAt A m x.1 x.2 ∧ (x.1 < m → x.2.1 = A.map (·.add x.1)) ∧ x.2.2.2 = c - x.1 ∧ Mem w [] [] wr) (fun x _ => m - x.1) (0, A, m, c) ⟨Nat.zero_le _, RdAt.start A m c hmc, fun _ => (map_add0 A).symm, by simp, M⟩ ?_
  rintro ⟨i, A1, m1, c1⟩ wr ⟨hi, hR, hA1, hc1, M⟩
  dsimp only at hi hR hA1 hc1 M ⊢
  have hlen := hR.len
  dsimp only at hlen
  subst hlen
  by_cases h0 : i < m
  · have hVi := hR.view hV hl
    dsimp only at hVi
    have hb8 := (bs.getD i default).toNat_lt
    have hgd : (bs.drop i).getD 0 default = bs.getD i default := by simp [List.getD]
    by_cases hz : bs.getD i default = 0
    · have hz' : ((bs.drop i).getD (Int.toNat 0) default).toNat = 0 := by rw [show Int.toNat 0 = 0 from rfl, hgd, hz]; rfl
      have hlt : i < lz bs := by
        rcases Nat.lt_or_ge i (lz bs) with h | h
        · exact h
        · have e : i = lz bs := by omega
          exact absurd hz (by rw [e]; exact lz_stop bs (by omega))
      (repeat (with_reducible first | refine st_move ?_ | refine st_assign ?_ | refine st_len ?_ | refine st_fieldAddr0 ?_ | refine st_fieldAddr ?_ | refine st_load M ?_ | refine st_loadAgg M ?_ | refine st_load_old M ?_ | refine st_loadAgg_old M ?_ | refine st_idx_rowN M ?_ | refine st_idx_row M ?_ | refine st_idx_viewN ?_ | refine st_idx_view ?_ | refine st_ld_row M ?_ | refine st_ld_view M ?_ | refine st_str_row M ?_ | refine st_str_view M ?_ | refine st_slice_lo ?_ | refine st_slice_hi ?_ | refine st_slice_both ?_ | refine st_eq_slice_nil ?_ | refine st_eq_ptr_nil ?_ | refine st_box M fun g w1 M => ?_ | refine st_alloc M fun g w1 M => ?_ | refine st_build_struct ?_ | refine st_build_arr ?_ | refine st_store M fun w1 M => ?_ | refine st_storeAgg0 M fun w1 M => ?_ | refine st_buildSlice M fun g w1 M => ?_ | refine st_app_row M fun A' c' w1 M => ?_ | refine st_app_view M fun A' c' w1 M => ?_ | refine st_app_zeros M fun A' c' w1 M => ?_ | refine st_make M fun g w1 M => ?_ | refine st_arrptr ?_ | refine hq_nil ?_ | refine hq_then_normal ?_ | refine hq_seq ?_ | refine hq_region ?_ | refine hq_block ?_ | refine hq_skip ?_ | refine hq_ret ?_ | refine hq_exit ?_ | refine hq_then_ret ?_ | refine hq_then_exit ?_ | refine hq_blk_normal ?_ | refine hq_blk_ret ?_ | refine hq_blk_exit ?_ | refine hq_blk_exit_ne ?_ | refine hq_cond_true ?_ | refine hq_cond_false ?_ | refine st_extract ?_ | refine hq_guard_yes ?_ | refine hq_guard_no ?_ | refine hq_guard_un ?_ | refine st_pick ?_ | refine st_nilCheck ?_ | refine st_not ?_ | refine st_cmp_yes ?_ | refine st_cmp_no ?_ | refine st_add ?_ | refine st_sub ?_ | refine st_rem ?_ | refine st_quo ?_ | refine st_mul ?_ | refine st_mask ?_ | refine st_eqb_same ?_ | refine st_eqb ?_ | refine st_neb ?_ | refine st_rem_k ?_ | refine st_quo_k ?_ | refine st_add_k ?_ | refine st_mul_k ?_ | refine st_neg_k ?_ | refine st_conv ?_ | refine st_eqs_same ?_ | refine st_nes_same ?_ | refine st_eqbs ?_ | refine st_nebs ?_))
      have hcut := hR.cut (k := 1) (by omega)
      refine hq_round (i + 1, cutA A1 c1 1 1, m - i - 1, c1 - 1) ⟨by dsimp only; omega, hcut, ?_, by dsimp only; omega, M⟩ (hm := by dsimp only; omega)
      dsimp only
      intro h
      rcases hcut.at_ with h1 | h1
      · omega
      · exact h1
    · have hz' : ((bs.drop i).getD (Int.toNat 0) default).toNat ≠ 0 := by rw [show Int.toNat 0 = 0 from rfl, hgd]; exact fun e => hz (UInt8.toNat_inj.1 (by rw [e]; rfl))
      have e : i = lz bs := by
        rcases Nat.lt_or_ge i (lz bs) with h | h
        · exact absurd (lz_drop bs i h) hz
        · omega
      (repeat (with_reducible first | refine st_move ?_ | refine st_assign ?_ | refine st_len ?_ | refine st_fieldAddr0 ?_ | refine st_fieldAddr ?_ | refine st_load M ?_ | refine st_loadAgg M ?_ | refine st_load_old M ?_ | refine st_loadAgg_old M ?_ | refine st_idx_rowN M ?_ | refine st_idx_row M ?_ | refine st_idx_viewN ?_ | refine st_idx_view ?_ | refine st_ld_row M ?_ | refine st_ld_view M ?_ | refine st_str_row M ?_ | refine st_str_view M ?_ | refine st_slice_lo ?_ | refine st_slice_hi ?_ | refine st_slice_both ?_ | refine st_eq_slice_nil ?_ | refine st_eq_ptr_nil ?_ | refine st_box M fun g w1 M => ?_ | refine st_alloc M fun g w1 M => ?_ | refine st_build_struct ?_ | refine st_build_arr ?_ | refine st_store M fun w1 M => ?_ | refine st_storeAgg0 M fun w1 M => ?_ | refine st_buildSlice M fun g w1 M => ?_ | refine st_app_row M fun A' c' w1 M => ?_ | refine st_app_view M fun A' c' w1 M => ?_ | refine st_app_zeros M fun A' c' w1 M => ?_ | refine st_make M fun g w1 M => ?_ | refine st_arrptr ?_ | refine hq_nil ?_ | refine hq_then_normal ?_ | refine hq_seq ?_ | refine hq_region ?_ | refine hq_block ?_ | refine hq_skip ?_ | refine hq_ret ?_ | refine hq_exit ?_ | refine hq_then_ret ?_ | refine hq_then_exit ?_ | refine hq_blk_normal ?_ | refine hq_blk_ret ?_ | refine hq_blk_exit ?_ | refine hq_blk_exit_ne ?_ | refine hq_cond_true ?_ | refine hq_cond_false ?_ | refine st_extract ?_ | refine hq_guard_yes ?_ | refine hq_guard_no ?_ | refine hq_guard_un ?_ | refine st_pick ?_ | refine st_nilCheck ?_ | refine st_not ?_ | refine st_cmp_yes ?_ | refine st_cmp_no ?_ | refine st_add ?_ | refine st_sub ?_ | refine st_rem ?_ | refine st_quo ?_ | refine st_mul ?_ | refine st_mask ?_ | refine st_eqb_same ?_ | refine st_eqb ?_ | refine st_neb ?_ | refine st_rem_k ?_ | refine st_quo_k ?_ | refine st_add_k ?_ | refine st_mul_k ?_ | refine st_neg_k ?_ | refine st_conv ?_ | refine st_eqs_same ?_ | refine st_nes_same ?_ | refine st_eqbs ?_ | refine st_nebs ?_))
      rw [if_pos (by omega)]
      refine hq_end1 ⟨?_, M⟩
      rw [hA1 h0, hc1, ← e]
  · rw [if_neg (by omega)]
    (repeat (with_reducible first | refine st_move ?_ | refine st_assign ?_ | refine st_len ?_ | refine st_fieldAddr0 ?_ | refine st_fieldAddr ?_ | refine st_load M ?_ | refine st_loadAgg M ?_ | refine st_load_old M ?_ | refine st_loadAgg_old M ?_ | refine st_idx_rowN M ?_ | refine st_idx_row M ?_ | refine st_idx_viewN ?_ | refine st_idx_view ?_ | refine st_ld_row M ?_ | refine st_ld_view M ?_ | refine st_str_row M ?_ | refine st_str_view M ?_ | refine st_slice_lo ?_ | refine st_slice_hi ?_ | refine st_slice_both ?_ | refine st_eq_slice_nil ?_ | refine st_eq_ptr_nil ?_ | refine st_box M fun g w1 M => ?_ | refine st_alloc M fun g w1 M => ?_ | refine st_build_struct ?_ | refine st_build_arr ?_ | refine st_store M fun w1 M => ?_ | refine st_storeAgg0 M fun w1 M => ?_ | refine st_buildSlice M fun g w1 M => ?_ | refine st_app_row M fun A' c' w1 M => ?_ | refine st_app_view M fun A' c' w1 M => ?_ | refine st_app_zeros M fun A' c' w1 M => ?_ | refine st_make M fun g w1 M => ?_ | refine st_arrptr ?_ | refine hq_nil ?_ | refine hq_then_normal ?_ | refine hq_seq ?_ | refine hq_region ?_ | refine hq_block ?_ | refine hq_skip ?_ | refine hq_ret ?_ | refine hq_exit ?_ | refine hq_then_ret ?_ | refine hq_then_exit ?_ | refine hq_blk_normal ?_ | refine hq_blk_ret ?_ | refine hq_blk_exit ?_ | refine hq_blk_exit_ne ?_ | refine hq_cond_true ?_ | refine hq_cond_false ?_ | refine st_extract ?_ | refine hq_guard_yes ?_ | refine hq_guard_no ?_ | refine hq_guard_un ?_ | refine st_pick ?_ | refine st_nilCheck ?_ | refine st_not ?_ | refine st_cmp_yes ?_ | refine st_cmp_no ?_ | refine st_add ?_ | refine st_sub ?_ | refine st_rem ?_ | refine st_quo ?_ | refine st_mul ?_ | refine st_mask ?_ | refine st_eqb_same ?_ | refine st_eqb ?_ | refine st_neb ?_ | refine st_rem_k ?_ | refine st_quo_k ?_ | refine st_add_k ?_ | refine st_mul_k ?_ | refine st_neg_k ?_ | refine st_conv ?_ | refine st_eqs_same ?_ | refine st_nes_same ?_ | refine st_eqbs ?_ | refine st_nebs ?_))
    exact hq_end1 ⟨rfl, M⟩
set_option maxRecDepth 100000 in
set_option maxHeartbeats 2000000 in
theorem trim_spec (A : Option Addr) (m c : Nat) (bs : List UInt8) (w : World) (hV : View w A (bs.map bv)) (hl : bs.length = m) (hmc : m ≤ c) (hm : m ≤ 140737488351232) :
    Calls Tryd.prog 27 #[.slice A m c, .string nul] w (fun e w' => ∃ (A' : Option Addr) (k c' : Nat), e = .returned (.slice A' k c') ∧ (k = 0 ↔ nil0 bs = true) ∧ Mem w [] [] w') := by
  have M := Mem.refl w
  refine enter ?_
  by_cases h0 : m = 0
  · subst h0
    have : bs = [] := List.eq_nil_of_length_eq_zero hl
    subst this
    (repeat (with_reducible first | refine st_move ?_ | refine st_assign ?_ | refine st_len ?_ | refine st_fieldAddr0 ?_ | refine st_fieldAddr ?_ | refine st_load M ?_ | refine st_loadAgg M ?_ | refine st_load_old M ?_ | refine st_loadAgg_old M ?_ | refine st_idx_rowN M ?_ | refine st_idx_row M ?_ | refine st_idx_viewN ?_ | refine st_idx_view ?_ | refine st_ld_row M ?_ | refine st_ld_view M ?_ | refine st_str_row M ?_ | refine st_str_view M ?_ | refine st_slice_lo ?_ | refine st_slice_hi ?_ | refine st_slice_both ?_ | refine st_eq_slice_nil ?_ | refine st_eq_ptr_nil ?_ | refine st_box M fun g w1 M => ?_ | refine st_alloc M fun g w1 M => ?_ | refine st_build_struct ?_ | refine st_build_arr ?_ | refine st_store M fun w1 M => ?_ | refine st_storeAgg0 M fun w1 M => ?_ | refine st_buildSlice M fun g w1 M => ?_ | refine st_app_row M fun A' c' w1 M => ?_ | refine st_app_view M fun A' c' w1 M => ?_ | refine st_app_zeros M fun A' c' w1 M => ?_ | refine st_make M fun g w1 M => ?_ | refine st_arrptr ?_ | refine hq_nil ?_ | refine hq_then_normal ?_ | refine hq_seq ?_ | refine hq_region ?_ | refine hq_block ?_ | refine hq_skip ?_ | refine hq_ret ?_ | refine hq_exit ?_ | refine hq_then_ret ?_ | refine hq_then_exit ?_ | refine hq_blk_normal ?_ | refine hq_blk_ret ?_ | refine hq_blk_exit ?_ | refine hq_blk_exit_ne ?_ | refine hq_cond_true ?_ | refine hq_cond_false ?_ | refine st_extract ?_ | refine hq_guard_yes ?_ | refine hq_guard_no ?_ | refine hq_guard_un ?_ | refine st_pick ?_ | refine st_nilCheck ?_ | refine st_not ?_ | refine st_cmp_yes ?_ | refine st_cmp_no ?_ | refine st_add ?_ | refine st_sub ?_ | refine st_rem ?_ | refine st_quo ?_ | refine st_mul ?_ | refine st_mask ?_ | refine st_eqb_same ?_ | refine st_eqb ?_ | refine st_neb ?_ | refine st_rem_k ?_ | refine st_quo_k ?_ | refine st_add_k ?_ | refine st_mul_k ?_ | refine st_neg_k ?_ | refine st_conv ?_ | refine st_eqs_same ?_ | refine st_nes_same ?_ | refine st_eqbs ?_ | refine st_nebs ?_))
    exact hq_end1 ⟨none, 0, 0, rfl, by simp [nil0], M⟩
  · have h1 := trn_le bs
    have h2 := trn_zero bs
    have h3 := lz_le (bs.take (trn bs))
    rw [List.length_take, Nat.min_eq_left h1] at h3
    (repeat (with_reducible first | (refine st_eq_nul ?_) | (refine st_len_nul ?_) | (refine st_idx_nul ?_) | refine st_move ?_ | refine st_assign ?_ | refine st_len ?_ | refine st_fieldAddr0 ?_ | refine st_fieldAddr ?_ | refine st_load M ?_ | refine st_loadAgg M ?_ | refine st_load_old M ?_ | refine st_loadAgg_old M ?_ | refine st_idx_rowN M ?_ | refine st_idx_row M ?_ | refine st_idx_viewN ?_ | refine st_idx_view ?_ | refine st_ld_row M ?_ | refine st_ld_view M ?_ | refine st_str_row M ?_ | refine st_str_view M ?_ | refine st_slice_lo ?_ | refine st_slice_hi ?_ | refine st_slice_both ?_ | refine st_eq_slice_nil ?_ | refine st_eq_ptr_nil ?_ | refine st_box M fun g w1 M => ?_ | refine st_alloc M fun g w1 M => ?_ | refine st_build_struct ?_ | refine st_build_arr ?_ | refine st_store M fun w1 M => ?_ | refine st_storeAgg0 M fun w1 M => ?_ | refine st_buildSlice M fun g w1 M => ?_ | refine st_app_row M fun A' c' w1 M => ?_ | refine st_app_view M fun A' c' w1 M => ?_ | refine st_app_zeros M fun A' c' w1 M => ?_ | refine st_make M fun g w1 M => ?_ | refine st_arrptr ?_ | refine hq_nil ?_ | refine hq_then_normal ?_ | refine hq_seq ?_ | refine hq_region ?_ | refine hq_block ?_ | refine hq_skip ?_ | refine hq_ret ?_ | refine hq_exit ?_ | refine hq_then_ret ?_ | refine hq_then_exit ?_ | refine hq_blk_normal ?_ | refine hq_blk_ret ?_ | refine hq_blk_exit ?_ | refine hq_blk_exit_ne ?_ | refine hq_cond_true ?_ | refine hq_cond_false ?_ | refine st_extract ?_ | refine hq_guard_yes ?_ | refine hq_guard_no ?_ | refine hq_guard_un ?_ | refine st_pick ?_ | refine st_nilCheck ?_ | refine st_not ?_ | refine st_cmp_yes ?_ | refine st_cmp_no ?_ | refine st_add ?_ | refine st_sub ?_ | refine st_rem ?_ | refine st_quo ?_ | refine st_mul ?_ | refine st_mask ?_ | refine st_eqb_same ?_ | refine st_eqb ?_ | refine st_neb ?_ | refine st_rem_k ?_ | refine st_quo_k ?_ | refine st_add_k ?_ | refine st_mul_k ?_ | refine st_neg_k ?_ | refine st_conv ?_ | refine st_eqs_same ?_ | refine st_nes_same ?_ | refine st_eqbs ?_ | refine st_nebs ?_))
    refine hq_dag [(0, .slice A m c), (1, .string nul)] ?_
    (repeat (first | ((with_reducible apply dag_is); (intro w' a lz hE hF hK; have M := M.ext hE; (repeat (with_reducible first | (refine st_idx_nul ?_) | refine st_move ?_ | refine st_assign ?_ | refine st_len ?_ | refine st_fieldAddr0 ?_ | refine st_fieldAddr ?_ | refine st_load M ?_ | refine st_loadAgg M ?_ | refine st_load_old M ?_ | refine st_loadAgg_old M ?_ | refine st_idx_rowN M ?_ | refine st_idx_row M ?_ | refine st_idx_viewN ?_ | refine st_idx_view ?_ | refine st_ld_row M ?_ | refine st_ld_view M ?_ | refine st_str_row M ?_ | refine st_str_view M ?_ | refine st_slice_lo ?_ | refine st_slice_hi ?_ | refine st_slice_both ?_ | refine st_eq_slice_nil ?_ | refine st_eq_ptr_nil ?_ | refine st_box M fun g w1 M => ?_ | refine st_alloc M fun g w1 M => ?_ | refine st_build_struct ?_ | refine st_build_arr ?_ | refine st_store M fun w1 M => ?_ | refine st_storeAgg0 M fun w1 M => ?_ | refine st_buildSlice M fun g w1 M => ?_ | refine st_app_row M fun A' c' w1 M => ?_ | refine st_app_view M fun A' c' w1 M => ?_ | refine st_app_zeros M fun A' c' w1 M => ?_ | refine st_make M fun g w1 M => ?_ | refine st_arrptr ?_ | refine hq_nil ?_ | refine hq_then_normal ?_ | refine hq_seq ?_ | refine hq_region ?_ | refine hq_block ?_ | refine hq_skip ?_ | refine hq_ret ?_ | refine hq_exit ?_ | refine hq_then_ret ?_ | refine hq_then_exit ?_ | refine hq_blk_normal ?_ | refine hq_blk_ret ?_ | refine hq_blk_exit ?_ | refine hq_blk_exit_ne ?_ | refine hq_cond_true ?_ | refine hq_cond_false ?_ | refine st_extract ?_ | refine hq_guard_yes ?_ | refine hq_guard_no ?_ | refine hq_guard_un ?_ | refine st_pick ?_ | refine st_nilCheck ?_ | refine st_not ?_ | refine st_cmp_yes ?_ | refine st_cmp_no ?_ | refine st_add ?_ | refine st_sub ?_ | refine st_rem ?_ | refine st_quo ?_ | refine st_mul ?_ | refine st_mask ?_ | refine st_eqb_same ?_ | refine st_eqb ?_ | refine st_neb ?_ | refine st_rem_k ?_ | refine st_quo_k ?_ | refine st_add_k ?_ | refine st_mul_k ?_ | refine st_neg_k ?_ | refine st_conv ?_ | refine st_eqs_same ?_ | refine st_nes_same ?_ | refine st_eqbs ?_ | refine st_nebs ?_)); exact dag_endis hF)) | ((with_reducible apply dag_is); (intro w' a lz hE hF hK; (repeat (with_reducible first | refine hq_guard_yes ?_)); exact dag_conv_row hF hK)) | ((with_reducible apply dag_oke); (intro w' a lz hE hF hK; (repeat (with_reducible first | refine hq_guard_yes ?_)); exact dag_build0 hE hF)) | refine dag_copy ?_ | refine dag_move ?_))
    (with_reducible apply dag_is); (intro w' a lz hE hF hK; have M := M.ext hE; (repeat (with_reducible first | refine hq_guard_yes ?_)); exact dag_callv hF rfl (trimr_spec A m c bs _ (M.view hV) hl hmc hm))
    (repeat (first | ((with_reducible apply dag_is); (intro w' a lz hE hF hK; have M := M.ext hE; (repeat (with_reducible first | (refine st_idx_nul ?_) | refine st_move ?_ | refine st_assign ?_ | refine st_len ?_ | refine st_fieldAddr0 ?_ | refine st_fieldAddr ?_ | refine st_load M ?_ | refine st_loadAgg M ?_ | refine st_load_old M ?_ | refine st_loadAgg_old M ?_ | refine st_idx_rowN M ?_ | refine st_idx_row M ?_ | refine st_idx_viewN ?_ | refine st_idx_view ?_ | refine st_ld_row M ?_ | refine st_ld_view M ?_ | refine st_str_row M ?_ | refine st_str_view M ?_ | refine st_slice_lo ?_ | refine st_slice_hi ?_ | refine st_slice_both ?_ | refine st_eq_slice_nil ?_ | refine st_eq_ptr_nil ?_ | refine st_box M fun g w1 M => ?_ | refine st_alloc M fun g w1 M => ?_ | refine st_build_struct ?_ | refine st_build_arr ?_ | refine st_store M fun w1 M => ?_ | refine st_storeAgg0 M fun w1 M => ?_ | refine st_buildSlice M fun g w1 M => ?_ | refine st_app_row M fun A' c' w1 M => ?_ | refine st_app_view M fun A' c' w1 M => ?_ | refine st_app_zeros M fun A' c' w1 M => ?_ | refine st_make M fun g w1 M => ?_ | refine st_arrptr ?_ | refine hq_nil ?_ | refine hq_then_normal ?_ | refine hq_seq ?_ | refine hq_region ?_ | refine hq_block ?_ | refine hq_skip ?_ | refine hq_ret ?_ | refine hq_exit ?_ | refine hq_then_ret ?_ | refine hq_then_exit ?_ | refine hq_blk_normal ?_ | refine hq_blk_ret ?_ | refine hq_blk_exit ?_ | refine hq_blk_exit_ne ?_ | refine hq_cond_true ?_ | refine hq_cond_false ?_ | refine st_extract ?_ | refine hq_guard_yes ?_ | refine hq_guard_no ?_ | refine hq_guard_un ?_ | refine st_pick ?_ | refine st_nilCheck ?_ | refine st_not ?_ | refine st_cmp_yes ?_ | refine st_cmp_no ?_ | refine st_add ?_ | refine st_sub ?_ | refine st_rem ?_ | refine st_quo ?_ | refine st_mul ?_ | refine st_mask ?_ | refine st_eqb_same ?_ | refine st_eqb ?_ | refine st_neb ?_ | refine st_rem_k ?_ | refine st_quo_k ?_ | refine st_add_k ?_ | refine st_mul_k ?_ | refine st_neg_k ?_ | refine st_conv ?_ | refine st_eqs_same ?_ | refine st_nes_same ?_ | refine st_eqbs ?_ | refine st_nebs ?_)); exact dag_endis hF)) | ((with_reducible apply dag_is); (intro w' a lz hE hF hK; (repeat (with_reducible first | refine hq_guard_yes ?_)); exact dag_conv_row hF hK)) | ((with_reducible apply dag_oke); (intro w' a lz hE hF hK; (repeat (with_reducible first | refine hq_guard_yes ?_)); exact dag_build0 hE hF)) | refine dag_copy ?_ | refine dag_move ?_))
    (with_reducible apply dag_is); (intro w' a lz hE hF hK; have M := M.ext hE; (repeat (with_reducible first | refine hq_guard_yes ?_)); exact dag_callv hF rfl (triml_spec A (trn bs) c (bs.take (trn bs)) _ (M.view (hV.pre (trn bs))) (by rw [List.length_take]; omega) (by omega) (by omega)))
    (repeat (first | ((with_reducible apply dag_is); (intro w' a lz hE hF hK; have M := M.ext hE; (repeat (with_reducible first | refine st_move ?_ | refine st_assign ?_ | refine st_len ?_ | refine st_fieldAddr0 ?_ | refine st_fieldAddr ?_ | refine st_load M ?_ | refine st_loadAgg M ?_ | refine st_load_old M ?_ | refine st_loadAgg_old M ?_ | refine st_idx_rowN M ?_ | refine st_idx_row M ?_ | refine st_idx_viewN ?_ | refine st_idx_view ?_ | refine st_ld_row M ?_ | refine st_ld_view M ?_ | refine st_str_row M ?_ | refine st_str_view M ?_ | refine st_slice_lo ?_ | refine st_slice_hi ?_ | refine st_slice_both ?_ | refine st_eq_slice_nil ?_ | refine st_eq_ptr_nil ?_ | refine st_box M fun g w1 M => ?_ | refine st_alloc M fun g w1 M => ?_ | refine st_build_struct ?_ | refine st_build_arr ?_ | refine st_store M fun w1 M => ?_ | refine st_storeAgg0 M fun w1 M => ?_ | refine st_buildSlice M fun g w1 M => ?_ | refine st_app_row M fun A' c' w1 M => ?_ | refine st_app_view M fun A' c' w1 M => ?_ | refine st_app_zeros M fun A' c' w1 M => ?_ | refine st_make M fun g w1 M => ?_ | refine st_arrptr ?_ | refine hq_nil ?_ | refine hq_then_normal ?_ | refine hq_seq ?_ | refine hq_region ?_ | refine hq_block ?_ | refine hq_skip ?_ | refine hq_ret ?_ | refine hq_exit ?_ | refine hq_then_ret ?_ | refine hq_then_exit ?_ | refine hq_blk_normal ?_ | refine hq_blk_ret ?_ | refine hq_blk_exit ?_ | refine hq_blk_exit_ne ?_ | refine hq_cond_true ?_ | refine hq_cond_false ?_ | refine st_extract ?_ | refine hq_guard_yes ?_ | refine hq_guard_no ?_ | refine hq_guard_un ?_ | refine st_pick ?_ | refine st_nilCheck ?_ | refine st_not ?_ | refine st_cmp_yes ?_ | refine st_cmp_no ?_ | refine st_add ?_ | refine st_sub ?_ | refine st_rem ?_ | refine st_quo ?_ | refine st_mul ?_ | refine st_mask ?_ | refine st_eqb_same ?_ | refine st_eqb ?_ | refine st_neb ?_ | refine st_rem_k ?_ | refine st_quo_k ?_ | refine st_add_k ?_ | refine st_mul_k ?_ | refine st_neg_k ?_ | refine st_conv ?_ | refine st_eqs_same ?_ | refine st_nes_same ?_ | refine st_eqbs ?_ | refine st_nebs ?_)); exact dag_endis hF)) | ((with_reducible apply dag_is); (intro w' a lz hE hF hK; (repeat (with_reducible first | refine hq_guard_yes ?_)); exact dag_conv_row hF hK)) | ((with_reducible apply dag_oke); (intro w' a lz hE hF hK; (repeat (with_reducible first | refine hq_guard_yes ?_)); exact dag_build0 hE hF)) | refine dag_copy ?_ | refine dag_move ?_))
    refine dag_nil (dag_done (fun w2 hE => ?_)); have M := M.ext hE
    (repeat (with_reducible first | refine st_move ?_ | refine st_assign ?_ | refine st_len ?_ | refine st_fieldAddr0 ?_ | refine st_fieldAddr ?_ | refine st_load M ?_ | refine st_loadAgg M ?_ | refine st_load_old M ?_ | refine st_loadAgg_old M ?_ | refine st_idx_rowN M ?_ | refine st_idx_row M ?_ | refine st_idx_viewN ?_ | refine st_idx_view ?_ | refine st_ld_row M ?_ | refine st_ld_view M ?_ | refine st_str_row M ?_ | refine st_str_view M ?_ | refine st_slice_lo ?_ | refine st_slice_hi ?_ | refine st_slice_both ?_ | refine st_eq_slice_nil ?_ | refine st_eq_ptr_nil ?_ | refine st_box M fun g w1 M => ?_ | refine st_alloc M fun g w1 M => ?_ | refine st_build_struct ?_ | refine st_build_arr ?_ | refine st_store M fun w1 M => ?_ | refine st_storeAgg0 M fun w1 M => ?_ | refine st_buildSlice M fun g w1 M => ?_ | refine st_app_row M fun A' c' w1 M => ?_ | refine st_app_view M fun A' c' w1 M => ?_ | refine st_app_zeros M fun A' c' w1 M => ?_ | refine st_make M fun g w1 M => ?_ | refine st_arrptr ?_ | refine hq_nil ?_ | refine hq_then_normal ?_ | refine hq_seq ?_ | refine hq_region ?_ | refine hq_block ?_ | refine hq_skip ?_ | refine hq_ret ?_ | refine hq_exit ?_ | refine hq_then_ret ?_ | refine hq_then_exit ?_ | refine hq_blk_normal ?_ | refine hq_blk_ret ?_ | refine hq_blk_exit ?_ | refine hq_blk_exit_ne ?_ | refine hq_cond_true ?_ | refine hq_cond_false ?_ | refine st_extract ?_ | refine hq_guard_yes ?_ | refine hq_guard_no ?_ | refine hq_guard_un ?_ | refine st_pick ?_ | refine st_nilCheck ?_ | refine st_not ?_ | refine st_cmp_yes ?_ | refine st_cmp_no ?_ | refine st_add ?_ | refine st_sub ?_ | refine st_rem ?_ | refine st_quo ?_ | refine st_mul ?_ | refine st_mask ?_ | refine st_eqb_same ?_ | refine st_eqb ?_ | refine st_neb ?_ | refine st_rem_k ?_ | refine st_quo_k ?_ | refine st_add_k ?_ | refine st_mul_k ?_ | refine st_neg_k ?_ | refine st_conv ?_ | refine st_eqs_same ?_ | refine st_nes_same ?_ | refine st_eqbs ?_ | refine st_nebs ?_))
    by_cases h : lz (bs.take (trn bs)) < trn bs
    · rw [if_pos h]
      refine hq_end1 ⟨_, _, _, rfl, ?_, M⟩
      rw [← h2]
      omega
    · rw [if_neg h]
      refine hq_end1 ⟨_, _, _, rfl, ?_, M⟩
      rw [← h2]
      have h4 := lz_all (bs.take (trn bs))
      rw [List.length_take, Nat.min_eq_left h1] at h4
      have h5 := h4.1 (by omega)
      constructor
      · intro _
        rcases Nat.eq_zero_or_pos (trn bs) with h6 | h6
        · exact h6
        · exfalso
          have h7 := trn_last bs h6
          rw [nil0, List.all_eq_true] at h5
          have h8 := h5 (bs.getD (trn bs - 1) default) (by
            have : (bs.take (trn bs))[trn bs - 1]? = some (bs.getD (trn bs - 1) default) := by
              rw [List.getElem?_take, if_pos (by omega)]
              simp [List.getD, show trn bs - 1 < bs.length by omega]
            exact List.mem_of_getElem? this)
          rw [beq_iff_eq] at h8
          exact h7 h8
      · exact fun _ => rfl
end Go.Proofs.YtemhbpgjnhdchaaDoor
