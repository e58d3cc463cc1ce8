/-
  Contracts: package ring.
-/
import Derived.Test.YtdgbgnkfjcbgiaaTy
set_option linter.unusedVariables false
namespace Go.Proofs.Ytdgbgnkfjcbgiaa
open Go Go.RowKit Sx

def iv (x : Int) : Value := .int .i64 x
/-- Do numbers rise? -/
def rises (xs : List Int) : Bool := (List.range (xs.length - 1)).all fun k => decide (xs.getD k 0 ≤ xs.getD (k + 1) 0)

set_option maxRecDepth 100000 in
theorem between_spec (A : Option Addr) (m c : Nat) (xs : List Int) (w : World) (hV : View w A (xs.map iv)) (hl : xs.length = m) (hm : m ≤ 100) :
    Calls Try.prog 30 #[.slice A m c] w fun e w' => e = .returned (.bool (rises xs)) ∧ Mem w [] [] w' := by
  refine enter ?_
  (repeat (with_reducible first | refine st_move ?_ | refine st_assign ?_ | refine st_len ?_ | refine st_fieldAddr0 ?_ | refine st_fieldAddr ?_ | refine st_load M ?_ | refine st_loadAgg M ?_ | refine st_box M fun g w1 M => ?_ | refine st_alloc M fun g w1 M => ?_ | refine st_build_struct ?_ | refine st_build_arr ?_ | refine st_store M fun w1 M => ?_ | refine st_storeAgg0 M fun w1 M => ?_ | refine st_buildSlice M fun g w1 M => ?_ | refine hq_nil ?_ | refine hq_then_normal ?_ | refine hq_seq ?_ | refine hq_region ?_ | refine hq_block ?_ | refine hq_skip ?_ | refine hq_ret ?_ | refine hq_exit ?_ | refine hq_then_ret ?_ | refine hq_then_exit ?_ | refine hq_blk_normal ?_ | refine hq_blk_ret ?_ | refine hq_blk_exit ?_ | refine hq_blk_exit_ne ?_ | refine hq_cond_true ?_ | refine hq_cond_false ?_ | refine st_extract ?_ | refine hq_guard_yes ?_ | refine hq_guard_no ?_ | refine st_pick ?_ | refine st_nilCheck ?_ | refine st_not ?_ | refine st_cmp_yes ?_ | refine st_cmp_no ?_ | refine st_add ?_ | refine st_sub ?_ | refine st_rem ?_ | refine st_quo ?_ | refine st_mul ?_ | refine st_mask ?_ | refine st_eqb ?_ | refine st_neb ?_))
  refine hq_loop (ι := Nat) (fun k => [(0, .slice A m c), (3, .int .i64 ((k + 1 : Nat) : Int))])
    (fun k wr => Mem w [] [] wr ∧ (k + 1 ≤ m ∨ k = 0) ∧ ∀ j, j < k → xs.getD j 0 ≤ xs.getD (j + 1) 0) (fun k _ => m - k) 0 ⟨Mem.refl w, .inr rfl, by omega⟩ ?_
  intro k wr ⟨M, hk, hall⟩
  by_cases hlt : k + 1 < m
  · (repeat (with_reducible first | refine st_move ?_ | refine st_assign ?_ | refine st_len ?_ | refine st_fieldAddr0 ?_ | refine st_fieldAddr ?_ | refine st_load M ?_ | refine st_loadAgg M ?_ | refine st_box M fun g w1 M => ?_ | refine st_alloc M fun g w1 M => ?_ | refine st_build_struct ?_ | refine st_build_arr ?_ | refine st_store M fun w1 M => ?_ | refine st_storeAgg0 M fun w1 M => ?_ | refine st_buildSlice M fun g w1 M => ?_ | refine hq_nil ?_ | refine hq_then_normal ?_ | refine hq_seq ?_ | refine hq_region ?_ | refine hq_block ?_ | refine hq_skip ?_ | refine hq_ret ?_ | refine hq_exit ?_ | refine hq_then_ret ?_ | refine hq_then_exit ?_ | refine hq_blk_normal ?_ | refine hq_blk_ret ?_ | refine hq_blk_exit ?_ | refine hq_blk_exit_ne ?_ | refine hq_cond_true ?_ | refine hq_cond_false ?_ | refine st_extract ?_ | refine hq_guard_yes ?_ | refine hq_guard_no ?_ | refine st_pick ?_ | refine st_nilCheck ?_ | refine st_not ?_ | refine st_cmp_yes ?_ | refine st_cmp_no ?_ | refine st_add ?_ | refine st_sub ?_ | refine st_rem ?_ | refine st_quo ?_ | refine st_mul ?_ | refine st_mask ?_ | refine st_eqb ?_ | refine st_neb ?_))
    have hVr := M.view hV
    have hA := hVr.some (by simp [hl]; omega)
    have h1 : (xs.map iv)[k]? = some (iv (xs.getD k 0)) := by simp [show k < xs.length by omega]
    have h2 : (xs.map iv)[k + 1]? = some (iv (xs.getD (k + 1) 0)) := by simp [show k + 1 < xs.length by omega]
    by_cases hgt : xs.getD (k + 1) 0 < xs.getD k 0
    · refine hq_dag [(0, .slice A m c), (3, .int .i64 ((k + 1 : Nat) : Int))] ?_
      (repeat ((with_reducible apply dag_is); (intro w' a lz hE hF hK; have M := M.ext hE; (repeat (with_reducible first | (refine st_at k hA ?_) | (refine st_at (k + 1) hA ?_) | (refine st_load_view (hVr.ext hE) ?_ rfl h1) | (refine st_load_view (hVr.ext hE) ?_ rfl h2) | refine st_move ?_ | refine st_assign ?_ | refine st_len ?_ | refine st_fieldAddr0 ?_ | refine st_fieldAddr ?_ | refine st_load M ?_ | refine st_loadAgg M ?_ | refine st_box M fun g w1 M => ?_ | refine st_alloc M fun g w1 M => ?_ | refine st_build_struct ?_ | refine st_build_arr ?_ | refine st_store M fun w1 M => ?_ | refine st_storeAgg0 M fun w1 M => ?_ | refine st_buildSlice M fun g w1 M => ?_ | refine hq_nil ?_ | refine hq_then_normal ?_ | refine hq_seq ?_ | refine hq_region ?_ | refine hq_block ?_ | refine hq_skip ?_ | refine hq_ret ?_ | refine hq_exit ?_ | refine hq_then_ret ?_ | refine hq_then_exit ?_ | refine hq_blk_normal ?_ | refine hq_blk_ret ?_ | refine hq_blk_exit ?_ | refine hq_blk_exit_ne ?_ | refine hq_cond_true ?_ | refine hq_cond_false ?_ | refine st_extract ?_ | refine hq_guard_yes ?_ | refine hq_guard_no ?_ | refine st_pick ?_ | refine st_nilCheck ?_ | refine st_not ?_ | refine st_cmp_yes ?_ | refine st_cmp_no ?_ | refine st_add ?_ | refine st_sub ?_ | refine st_rem ?_ | refine st_quo ?_ | refine st_mul ?_ | refine st_mask ?_ | refine st_eqb ?_ | refine st_neb ?_)); exact dag_endis hF)))
      refine dag_nil (dag_done (fun w2 hE => ?_))
      (repeat (with_reducible first | refine st_move ?_ | refine st_assign ?_ | refine st_len ?_ | refine st_fieldAddr0 ?_ | refine st_fieldAddr ?_ | refine st_load M ?_ | refine st_loadAgg M ?_ | refine st_box M fun g w1 M => ?_ | refine st_alloc M fun g w1 M => ?_ | refine st_build_struct ?_ | refine st_build_arr ?_ | refine st_store M fun w1 M => ?_ | refine st_storeAgg0 M fun w1 M => ?_ | refine st_buildSlice M fun g w1 M => ?_ | refine hq_nil ?_ | refine hq_then_normal ?_ | refine hq_seq ?_ | refine hq_region ?_ | refine hq_block ?_ | refine hq_skip ?_ | refine hq_ret ?_ | refine hq_exit ?_ | refine hq_then_ret ?_ | refine hq_then_exit ?_ | refine hq_blk_normal ?_ | refine hq_blk_ret ?_ | refine hq_blk_exit ?_ | refine hq_blk_exit_ne ?_ | refine hq_cond_true ?_ | refine hq_cond_false ?_ | refine st_extract ?_ | refine hq_guard_yes ?_ | refine hq_guard_no ?_ | refine st_pick ?_ | refine st_nilCheck ?_ | refine st_not ?_ | refine st_cmp_yes ?_ | refine st_cmp_no ?_ | refine st_add ?_ | refine st_sub ?_ | refine st_rem ?_ | refine st_quo ?_ | refine st_mul ?_ | refine st_mask ?_ | refine st_eqb ?_ | refine st_neb ?_))
      refine hq_end1 ⟨?_, M.ext hE⟩
      have : rises xs = false := by
        unfold rises
        rw [List.all_eq_false]
        exact ⟨k, by simp; omega, by simp; simpa using hgt⟩
      rw [this]
    · refine hq_dag [(0, .slice A m c), (3, .int .i64 ((k + 1 : Nat) : Int))] ?_
      (repeat ((with_reducible apply dag_is); (intro w' a lz hE hF hK; have M := M.ext hE; (repeat (with_reducible first | (refine st_at k hA ?_) | (refine st_at (k + 1) hA ?_) | (refine st_load_view (hVr.ext hE) ?_ rfl h1) | (refine st_load_view (hVr.ext hE) ?_ rfl h2) | refine st_move ?_ | refine st_assign ?_ | refine st_len ?_ | refine st_fieldAddr0 ?_ | refine st_fieldAddr ?_ | refine st_load M ?_ | refine st_loadAgg M ?_ | refine st_box M fun g w1 M => ?_ | refine st_alloc M fun g w1 M => ?_ | refine st_build_struct ?_ | refine st_build_arr ?_ | refine st_store M fun w1 M => ?_ | refine st_storeAgg0 M fun w1 M => ?_ | refine st_buildSlice M fun g w1 M => ?_ | refine hq_nil ?_ | refine hq_then_normal ?_ | refine hq_seq ?_ | refine hq_region ?_ | refine hq_block ?_ | refine hq_skip ?_ | refine hq_ret ?_ | refine hq_exit ?_ | refine hq_then_ret ?_ | refine hq_then_exit ?_ | refine hq_blk_normal ?_ | refine hq_blk_ret ?_ | refine hq_blk_exit ?_ | refine hq_blk_exit_ne ?_ | refine hq_cond_true ?_ | refine hq_cond_false ?_ | refine st_extract ?_ | refine hq_guard_yes ?_ | refine hq_guard_no ?_ | refine st_pick ?_ | refine st_nilCheck ?_ | refine st_not ?_ | refine st_cmp_yes ?_ | refine st_cmp_no ?_ | refine st_add ?_ | refine st_sub ?_ | refine st_rem ?_ | refine st_quo ?_ | refine st_mul ?_ | refine st_mask ?_ | refine st_eqb ?_ | refine st_neb ?_)); exact dag_endis hF)))
      refine dag_nil (dag_done (fun w2 hE => ?_))
      (repeat (with_reducible first | refine st_move ?_ | refine st_assign ?_ | refine st_len ?_ | refine st_fieldAddr0 ?_ | refine st_fieldAddr ?_ | refine st_load M ?_ | refine st_loadAgg M ?_ | refine st_box M fun g w1 M => ?_ | refine st_alloc M fun g w1 M => ?_ | refine st_build_struct ?_ | refine st_build_arr ?_ | refine st_store M fun w1 M => ?_ | refine st_storeAgg0 M fun w1 M => ?_ | refine st_buildSlice M fun g w1 M => ?_ | refine hq_nil ?_ | refine hq_then_normal ?_ | refine hq_seq ?_ | refine hq_region ?_ | refine hq_block ?_ | refine hq_skip ?_ | refine hq_ret ?_ | refine hq_exit ?_ | refine hq_then_ret ?_ | refine hq_then_exit ?_ | refine hq_blk_normal ?_ | refine hq_blk_ret ?_ | refine hq_blk_exit ?_ | refine hq_blk_exit_ne ?_ | refine hq_cond_true ?_ | refine hq_cond_false ?_ | refine st_extract ?_ | refine hq_guard_yes ?_ | refine hq_guard_no ?_ | refine st_pick ?_ | refine st_nilCheck ?_ | refine st_not ?_ | refine st_cmp_yes ?_ | refine st_cmp_no ?_ | refine st_add ?_ | refine st_sub ?_ | refine st_rem ?_ | refine st_quo ?_ | refine st_mul ?_ | refine st_mask ?_ | refine st_eqb ?_ | refine st_neb ?_))
      refine hq_round (k + 1) ⟨M.ext hE, .inl (by omega), fun j hj => ?_⟩
      rcases Nat.lt_or_ge j k with h | h
      · exact hall j h
      · have : j = k := by omega
        subst this
        omega
  · (repeat (with_reducible first | refine st_move ?_ | refine st_assign ?_ | refine st_len ?_ | refine st_fieldAddr0 ?_ | refine st_fieldAddr ?_ | refine st_load M ?_ | refine st_loadAgg M ?_ | refine st_box M fun g w1 M => ?_ | refine st_alloc M fun g w1 M => ?_ | refine st_build_struct ?_ | refine st_build_arr ?_ | refine st_store M fun w1 M => ?_ | refine st_storeAgg0 M fun w1 M => ?_ | refine st_buildSlice M fun g w1 M => ?_ | refine hq_nil ?_ | refine hq_then_normal ?_ | refine hq_seq ?_ | refine hq_region ?_ | refine hq_block ?_ | refine hq_skip ?_ | refine hq_ret ?_ | refine hq_exit ?_ | refine hq_then_ret ?_ | refine hq_then_exit ?_ | refine hq_blk_normal ?_ | refine hq_blk_ret ?_ | refine hq_blk_exit ?_ | refine hq_blk_exit_ne ?_ | refine hq_cond_true ?_ | refine hq_cond_false ?_ | refine st_extract ?_ | refine hq_guard_yes ?_ | refine hq_guard_no ?_ | refine st_pick ?_ | refine st_nilCheck ?_ | refine st_not ?_ | refine st_cmp_yes ?_ | refine st_cmp_no ?_ | refine st_add ?_ | refine st_sub ?_ | refine st_rem ?_ | refine st_quo ?_ | refine st_mul ?_ | refine st_mask ?_ | refine st_eqb ?_ | refine st_neb ?_))
    refine hq_end1 ⟨?_, M⟩
    have : rises xs = true := by
      unfold rises
      rw [List.all_eq_true]
      intro j hj
      simp only [List.mem_range] at hj
      exact decide_eq_true (hall j (by omega))
    rw [this]
end Go.Proofs.Ytdgbgnkfjcbgiaa
