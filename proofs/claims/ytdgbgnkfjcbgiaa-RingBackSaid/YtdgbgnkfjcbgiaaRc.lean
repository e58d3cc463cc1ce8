/-
  Contracts: ring.full, ring.Spans.
-/
import Derived.Test.YtdgbgnkfjcbgiaaRb
set_option linter.unusedVariables false
namespace Go.Proofs.Ytdgbgnkfjcbgiaa
open Go Go.RowKit Sx

def prs (ps : List (Int × Int)) : List Value := ps.flatMap fun p => [iv p.1, iv p.2]
theorem prs_length (ps : List (Int × Int)) : (prs ps).length = ps.length * 2 := by
  induction ps with
  | nil => rfl
  | cons p ps ih => simp only [prs, List.flatMap_cons, List.length_append, List.length_cons, List.length_nil] at ih ⊢; omega
theorem prs_append (ps qs : List (Int × Int)) : prs (ps ++ qs) = prs ps ++ prs qs := by simp [prs]
theorem prs_at : ∀ (ps : List (Int × Int)) (i : Nat) (p : Int × Int), ps[i]? = some p → ((prs ps).drop (i * 2)).take 2 = [iv p.1, iv p.2]
  | q :: ps, 0, p, h => by simp at h; subst h; rfl
  | q :: ps, i + 1, p, h => by
    simp at h
    have := prs_at ps i p h
    rw [show (i + 1) * 2 = i * 2 + 2 from by omega]
    simpa [prs] using this
theorem prs_oneCell (ps : List (Int × Int)) : ∀ u ∈ prs ps, u.oneCell' = true := by
  intro u hu
  obtain ⟨p, _, hp⟩ := List.mem_flatMap.1 hu
  simp at hp
  rcases hp with rfl | rfl <;> rfl
def kept (ps : List (Int × Int)) : List (Int × Int) := ps.filter fun p => decide (0 < p.2)
theorem kept_snoc (ps : List (Int × Int)) (p : Int × Int) : kept (ps ++ [p]) = if 0 < p.2 then kept ps ++ [p] else kept ps := by
  unfold kept
  rw [List.filter_append]
  by_cases h : 0 < p.2 <;> simp [h]

set_option maxRecDepth 100000 in
theorem full_spec (A : Option Addr) (m c : Nat) (ps : List (Int × Int)) (w : World) (hV : View w A (prs ps)) (hl : ps.length = m) (hm : m ≤ 100) :
    Calls Try.prog 31 #[.slice A m c] w fun e w' => ∃ A' c', e = .returned (.slice A' (kept ps).length c') ∧ Mem w [] [.row A' (kept ps).length c' (prs (kept ps)) 29 2] w' := by
  have M := Mem.refl w
  refine enter ?_
  (repeat (with_reducible first | refine st_move ?_ | refine st_assign ?_ | refine st_len ?_ | refine st_fieldAddr0 ?_ | refine st_fieldAddr ?_ | refine st_load M ?_ | refine st_loadAgg M ?_ | refine st_box M fun g w1 M => ?_ | refine st_alloc M fun g w1 M => ?_ | refine st_build_struct ?_ | refine st_build_arr ?_ | refine st_store M fun w1 M => ?_ | refine st_storeAgg0 M fun w1 M => ?_ | refine st_buildSlice M fun g w1 M => ?_ | refine hq_nil ?_ | refine hq_then_normal ?_ | refine hq_seq ?_ | refine hq_region ?_ | refine hq_block ?_ | refine hq_skip ?_ | refine hq_ret ?_ | refine hq_exit ?_ | refine hq_then_ret ?_ | refine hq_then_exit ?_ | refine hq_blk_normal ?_ | refine hq_blk_ret ?_ | refine hq_blk_exit ?_ | refine hq_blk_exit_ne ?_ | refine hq_cond_true ?_ | refine hq_cond_false ?_ | refine st_extract ?_ | refine hq_guard_yes ?_ | refine hq_guard_no ?_ | refine st_pick ?_ | refine st_nilCheck ?_ | refine st_not ?_ | refine st_cmp_yes ?_ | refine st_cmp_no ?_ | refine st_add ?_ | refine st_sub ?_ | refine st_rem ?_ | refine st_quo ?_ | refine st_mul ?_ | refine st_mask ?_ | refine st_eqb ?_ | refine st_neb ?_))
  refine hq_loop (ι := Nat × Option Addr × Nat) (fun s => [(6, .slice A m c), (7, iv (m : Int)), (8, iv (s.1 : Int)), (3, .slice s.2.1 (kept (ps.take s.1)).length s.2.2)])
    (fun s wr => s.1 ≤ m ∧ Mem w [] [.row s.2.1 (kept (ps.take s.1)).length s.2.2 (prs (kept (ps.take s.1))) 29 2] wr) (fun s _ => m - s.1) (0, none, 0) ⟨by simp, Mem.nilRow M _ _⟩ ?_
  rintro ⟨i, B, d⟩ wr ⟨hi, M⟩
  dsimp only at hi M ⊢
  by_cases hlt : i < m
  · have hV := M.view hV
    have hA := hV.some (by rw [prs_length]; omega)
    obtain ⟨p, hp⟩ : ∃ p, ps[i]? = some p := ⟨ps[i]'(by omega), by rw [List.getElem?_eq_getElem]⟩
    have htake : ps.take (i + 1) = ps.take i ++ [p] := by rw [List.take_add_one, hp]; rfl
    have hkl : (kept (ps.take i)).length ≤ i := Nat.le_trans (List.length_filter_le _ _) (List.length_take_le _ _)
    (repeat (with_reducible first | refine st_move ?_ | refine st_assign ?_ | refine st_len ?_ | refine st_fieldAddr0 ?_ | refine st_fieldAddr ?_ | refine st_load M ?_ | refine st_loadAgg M ?_ | refine st_box M fun g w1 M => ?_ | refine st_alloc M fun g w1 M => ?_ | refine st_build_struct ?_ | refine st_build_arr ?_ | refine st_store M fun w1 M => ?_ | refine st_storeAgg0 M fun w1 M => ?_ | refine st_buildSlice M fun g w1 M => ?_ | refine hq_nil ?_ | refine hq_then_normal ?_ | refine hq_seq ?_ | refine hq_region ?_ | refine hq_block ?_ | refine hq_skip ?_ | refine hq_ret ?_ | refine hq_exit ?_ | refine hq_then_ret ?_ | refine hq_then_exit ?_ | refine hq_blk_normal ?_ | refine hq_blk_ret ?_ | refine hq_blk_exit ?_ | refine hq_blk_exit_ne ?_ | refine hq_cond_true ?_ | refine hq_cond_false ?_ | refine st_extract ?_ | refine hq_guard_yes ?_ | refine hq_guard_no ?_ | refine st_pick ?_ | refine st_nilCheck ?_ | refine st_not ?_ | refine st_cmp_yes ?_ | refine st_cmp_no ?_ | refine st_add ?_ | refine st_sub ?_ | refine st_rem ?_ | refine st_quo ?_ | refine st_mul ?_ | refine st_mask ?_ | refine st_eqb ?_ | refine st_neb ?_))
    refine st_at (i * 2) hA ?_
    refine st_loadAgg_view hV hA (prs_at ps i p hp) ?_
    (repeat (with_reducible first | refine st_move ?_ | refine st_assign ?_ | refine st_len ?_ | refine st_fieldAddr0 ?_ | refine st_fieldAddr ?_ | refine st_load M ?_ | refine st_loadAgg M ?_ | refine st_box M fun g w1 M => ?_ | refine st_alloc M fun g w1 M => ?_ | refine st_build_struct ?_ | refine st_build_arr ?_ | refine st_store M fun w1 M => ?_ | refine st_storeAgg0 M fun w1 M => ?_ | refine st_buildSlice M fun g w1 M => ?_ | refine hq_nil ?_ | refine hq_then_normal ?_ | refine hq_seq ?_ | refine hq_region ?_ | refine hq_block ?_ | refine hq_skip ?_ | refine hq_ret ?_ | refine hq_exit ?_ | refine hq_then_ret ?_ | refine hq_then_exit ?_ | refine hq_blk_normal ?_ | refine hq_blk_ret ?_ | refine hq_blk_exit ?_ | refine hq_blk_exit_ne ?_ | refine hq_cond_true ?_ | refine hq_cond_false ?_ | refine st_extract ?_ | refine hq_guard_yes ?_ | refine hq_guard_no ?_ | refine st_pick ?_ | refine st_nilCheck ?_ | refine st_not ?_ | refine st_cmp_yes ?_ | refine st_cmp_no ?_ | refine st_add ?_ | refine st_sub ?_ | refine st_rem ?_ | refine st_quo ?_ | refine st_mul ?_ | refine st_mask ?_ | refine st_eqb ?_ | refine st_neb ?_))
    refine st_at_arr 1 ?_
    by_cases hpos : 0 < p.2
    · (repeat (with_reducible first | refine st_move ?_ | refine st_assign ?_ | refine st_len ?_ | refine st_fieldAddr0 ?_ | refine st_fieldAddr ?_ | refine st_load M ?_ | refine st_loadAgg M ?_ | refine st_box M fun g w1 M => ?_ | refine st_alloc M fun g w1 M => ?_ | refine st_build_struct ?_ | refine st_build_arr ?_ | refine st_store M fun w1 M => ?_ | refine st_storeAgg0 M fun w1 M => ?_ | refine st_buildSlice M fun g w1 M => ?_ | refine hq_nil ?_ | refine hq_then_normal ?_ | refine hq_seq ?_ | refine hq_region ?_ | refine hq_block ?_ | refine hq_skip ?_ | refine hq_ret ?_ | refine hq_exit ?_ | refine hq_then_ret ?_ | refine hq_then_exit ?_ | refine hq_blk_normal ?_ | refine hq_blk_ret ?_ | refine hq_blk_exit ?_ | refine hq_blk_exit_ne ?_ | refine hq_cond_true ?_ | refine hq_cond_false ?_ | refine st_extract ?_ | refine hq_guard_yes ?_ | refine hq_guard_no ?_ | refine st_pick ?_ | refine st_nilCheck ?_ | refine st_not ?_ | refine st_cmp_yes ?_ | refine st_cmp_no ?_ | refine st_add ?_ | refine st_sub ?_ | refine st_rem ?_ | refine st_quo ?_ | refine st_mul ?_ | refine st_mask ?_ | refine st_eqb ?_ | refine st_neb ?_))
      refine st_append M (ys := prs [p]) (view_row M.r0) (prs_oneCell _) (fun A' c' w2 M => ?_)
      (repeat (with_reducible first | refine st_move ?_ | refine st_assign ?_ | refine st_len ?_ | refine st_fieldAddr0 ?_ | refine st_fieldAddr ?_ | refine st_load M ?_ | refine st_loadAgg M ?_ | refine st_box M fun g w1 M => ?_ | refine st_alloc M fun g w1 M => ?_ | refine st_build_struct ?_ | refine st_build_arr ?_ | refine st_store M fun w1 M => ?_ | refine st_storeAgg0 M fun w1 M => ?_ | refine st_buildSlice M fun g w1 M => ?_ | refine hq_nil ?_ | refine hq_then_normal ?_ | refine hq_seq ?_ | refine hq_region ?_ | refine hq_block ?_ | refine hq_skip ?_ | refine hq_ret ?_ | refine hq_exit ?_ | refine hq_then_ret ?_ | refine hq_then_exit ?_ | refine hq_blk_normal ?_ | refine hq_blk_ret ?_ | refine hq_blk_exit ?_ | refine hq_blk_exit_ne ?_ | refine hq_cond_true ?_ | refine hq_cond_false ?_ | refine st_extract ?_ | refine hq_guard_yes ?_ | refine hq_guard_no ?_ | refine st_pick ?_ | refine st_nilCheck ?_ | refine st_not ?_ | refine st_cmp_yes ?_ | refine st_cmp_no ?_ | refine st_add ?_ | refine st_sub ?_ | refine st_rem ?_ | refine st_quo ?_ | refine st_mul ?_ | refine st_mask ?_ | refine st_eqb ?_ | refine st_neb ?_))
      have M := M.drop.drop
      refine hq_round (i + 1, A', c') ⟨by dsimp only; omega, ?_⟩ (hsub := ?_)
      · dsimp only
        rw [htake, kept_snoc, if_pos hpos, List.length_append, prs_append]
        exact M
      · dsimp only
        rw [htake, kept_snoc, if_pos hpos, List.length_append]
        (repeat (first | exact Sub.nil _ | refine Sub.cons rfl ?_))
    · (repeat (with_reducible first | refine st_move ?_ | refine st_assign ?_ | refine st_len ?_ | refine st_fieldAddr0 ?_ | refine st_fieldAddr ?_ | refine st_load M ?_ | refine st_loadAgg M ?_ | refine st_box M fun g w1 M => ?_ | refine st_alloc M fun g w1 M => ?_ | refine st_build_struct ?_ | refine st_build_arr ?_ | refine st_store M fun w1 M => ?_ | refine st_storeAgg0 M fun w1 M => ?_ | refine st_buildSlice M fun g w1 M => ?_ | refine hq_nil ?_ | refine hq_then_normal ?_ | refine hq_seq ?_ | refine hq_region ?_ | refine hq_block ?_ | refine hq_skip ?_ | refine hq_ret ?_ | refine hq_exit ?_ | refine hq_then_ret ?_ | refine hq_then_exit ?_ | refine hq_blk_normal ?_ | refine hq_blk_ret ?_ | refine hq_blk_exit ?_ | refine hq_blk_exit_ne ?_ | refine hq_cond_true ?_ | refine hq_cond_false ?_ | refine st_extract ?_ | refine hq_guard_yes ?_ | refine hq_guard_no ?_ | refine st_pick ?_ | refine st_nilCheck ?_ | refine st_not ?_ | refine st_cmp_yes ?_ | refine st_cmp_no ?_ | refine st_add ?_ | refine st_sub ?_ | refine st_rem ?_ | refine st_quo ?_ | refine st_mul ?_ | refine st_mask ?_ | refine st_eqb ?_ | refine st_neb ?_))
      have M := M.drop
      refine hq_round (i + 1, B, d) ⟨by dsimp only; omega, ?_⟩ (hsub := ?_)
      · dsimp only
        rw [htake, kept_snoc, if_neg hpos]
        exact M
      · dsimp only
        rw [htake, kept_snoc, if_neg hpos]
        (repeat (first | exact Sub.nil _ | refine Sub.cons rfl ?_))
  · (repeat (with_reducible first | refine st_move ?_ | refine st_assign ?_ | refine st_len ?_ | refine st_fieldAddr0 ?_ | refine st_fieldAddr ?_ | refine st_load M ?_ | refine st_loadAgg M ?_ | refine st_box M fun g w1 M => ?_ | refine st_alloc M fun g w1 M => ?_ | refine st_build_struct ?_ | refine st_build_arr ?_ | refine st_store M fun w1 M => ?_ | refine st_storeAgg0 M fun w1 M => ?_ | refine st_buildSlice M fun g w1 M => ?_ | refine hq_nil ?_ | refine hq_then_normal ?_ | refine hq_seq ?_ | refine hq_region ?_ | refine hq_block ?_ | refine hq_skip ?_ | refine hq_ret ?_ | refine hq_exit ?_ | refine hq_then_ret ?_ | refine hq_then_exit ?_ | refine hq_blk_normal ?_ | refine hq_blk_ret ?_ | refine hq_blk_exit ?_ | refine hq_blk_exit_ne ?_ | refine hq_cond_true ?_ | refine hq_cond_false ?_ | refine st_extract ?_ | refine hq_guard_yes ?_ | refine hq_guard_no ?_ | refine st_pick ?_ | refine st_nilCheck ?_ | refine st_not ?_ | refine st_cmp_yes ?_ | refine st_cmp_no ?_ | refine st_add ?_ | refine st_sub ?_ | refine st_rem ?_ | refine st_quo ?_ | refine st_mul ?_ | refine st_mask ?_ | refine st_eqb ?_ | refine st_neb ?_))
    have : i = m := by omega
    subst this
    rw [List.take_of_length_le (by omega)] at M ⊢
    exact hq_end1 ⟨B, d, rfl, M⟩

/-- The lots of n places from a on. -/
def spansI (F S a n : Int) : List (Int × Int) :=
  let f := a % S
  let k := if S - f < n then S - f else n
  kept [(F + f, k), (F, n - k)]
def SpOk (F S H T a n : Int) : Prop := Placed F S H T a ∧ 0 ≤ n ∧ n ≤ S
set_option maxRecDepth 100000 in
theorem spans_yes (F S H T a n : Int) (w : World) (h : SpOk F S H T a n) :
    Calls Try.prog 11 #[rg F S H T, iv a, iv n] w fun e w' => ∃ A' c', e = .returned (.slice A' (spansI F S a n).length c') ∧ Mem w [] [.row A' (spansI F S a n).length c' (prs (spansI F S a n)) 29 2] w' := by
  have hs := h.1.1
  unfold Sane at hs
  have ha := h.1.2
  have hn := h.2
  have M := Mem.refl w
  refine enter ?_
  (repeat (with_reducible first | refine st_move ?_ | refine st_assign ?_ | refine st_len ?_ | refine st_fieldAddr0 ?_ | refine st_fieldAddr ?_ | refine st_load M ?_ | refine st_loadAgg M ?_ | refine st_box M fun g w1 M => ?_ | refine st_alloc M fun g w1 M => ?_ | refine st_build_struct ?_ | refine st_build_arr ?_ | refine st_store M fun w1 M => ?_ | refine st_storeAgg0 M fun w1 M => ?_ | refine st_buildSlice M fun g w1 M => ?_ | refine hq_nil ?_ | refine hq_then_normal ?_ | refine hq_seq ?_ | refine hq_region ?_ | refine hq_block ?_ | refine hq_skip ?_ | refine hq_ret ?_ | refine hq_exit ?_ | refine hq_then_ret ?_ | refine hq_then_exit ?_ | refine hq_blk_normal ?_ | refine hq_blk_ret ?_ | refine hq_blk_exit ?_ | refine hq_blk_exit_ne ?_ | refine hq_cond_true ?_ | refine hq_cond_false ?_ | refine st_extract ?_ | refine hq_guard_yes ?_ | refine hq_guard_no ?_ | refine st_pick ?_ | refine st_nilCheck ?_ | refine st_not ?_ | refine st_cmp_yes ?_ | refine st_cmp_no ?_ | refine st_add ?_ | refine st_sub ?_ | refine st_rem ?_ | refine st_quo ?_ | refine st_mul ?_ | refine st_mask ?_ | refine st_eqb ?_ | refine st_neb ?_))
  refine st_callv M rfl (place_yes F S H T a _ h.1) fun w1 M => ?_
  (repeat (with_reducible first | refine st_move ?_ | refine st_assign ?_ | refine st_len ?_ | refine st_fieldAddr0 ?_ | refine st_fieldAddr ?_ | refine st_load M ?_ | refine st_loadAgg M ?_ | refine st_box M fun g w1 M => ?_ | refine st_alloc M fun g w1 M => ?_ | refine st_build_struct ?_ | refine st_build_arr ?_ | refine st_store M fun w1 M => ?_ | refine st_storeAgg0 M fun w1 M => ?_ | refine st_buildSlice M fun g w1 M => ?_ | refine hq_nil ?_ | refine hq_then_normal ?_ | refine hq_seq ?_ | refine hq_region ?_ | refine hq_block ?_ | refine hq_skip ?_ | refine hq_ret ?_ | refine hq_exit ?_ | refine hq_then_ret ?_ | refine hq_then_exit ?_ | refine hq_blk_normal ?_ | refine hq_blk_ret ?_ | refine hq_blk_exit ?_ | refine hq_blk_exit_ne ?_ | refine hq_cond_true ?_ | refine hq_cond_false ?_ | refine st_extract ?_ | refine hq_guard_yes ?_ | refine hq_guard_no ?_ | refine st_pick ?_ | refine st_nilCheck ?_ | refine st_not ?_ | refine st_cmp_yes ?_ | refine st_cmp_no ?_ | refine st_add ?_ | refine st_sub ?_ | refine st_rem ?_ | refine st_quo ?_ | refine st_mul ?_ | refine st_mask ?_ | refine st_eqb ?_ | refine st_neb ?_))
  refine st_callv M rfl (between_of _ 3 3 [0, n, S] true _ (view_row M.r0) rfl (by omega) (by rw [rises3]; exact decide_eq_true hn)) fun w1 M => ?_
  have M := M.drop
  have hm : 0 ≤ a % S ∧ a % S < S := ⟨Int.emod_nonneg _ (by omega), Int.emod_lt_of_pos _ (by omega)⟩
  (repeat (with_reducible first | refine st_move ?_ | refine st_assign ?_ | refine st_len ?_ | refine st_fieldAddr0 ?_ | refine st_fieldAddr ?_ | refine st_load M ?_ | refine st_loadAgg M ?_ | refine st_box M fun g w1 M => ?_ | refine st_alloc M fun g w1 M => ?_ | refine st_build_struct ?_ | refine st_build_arr ?_ | refine st_store M fun w1 M => ?_ | refine st_storeAgg0 M fun w1 M => ?_ | refine st_buildSlice M fun g w1 M => ?_ | refine hq_nil ?_ | refine hq_then_normal ?_ | refine hq_seq ?_ | refine hq_region ?_ | refine hq_block ?_ | refine hq_skip ?_ | refine hq_ret ?_ | refine hq_exit ?_ | refine hq_then_ret ?_ | refine hq_then_exit ?_ | refine hq_blk_normal ?_ | refine hq_blk_ret ?_ | refine hq_blk_exit ?_ | refine hq_blk_exit_ne ?_ | refine hq_cond_true ?_ | refine hq_cond_false ?_ | refine st_extract ?_ | refine hq_guard_yes ?_ | refine hq_guard_no ?_ | refine st_pick ?_ | refine st_nilCheck ?_ | refine st_not ?_ | refine st_cmp_yes ?_ | refine st_cmp_no ?_ | refine st_add ?_ | refine st_sub ?_ | refine st_rem ?_ | refine st_quo ?_ | refine st_mul ?_ | refine st_mask ?_ | refine st_eqb ?_ | refine st_neb ?_))
  refine st_min2 ?_
  obtain ⟨k, hk⟩ : ∃ k : Int, k = (if S - a % S < n then S - a % S else n) := ⟨_, rfl⟩
  have hk1 : 0 ≤ k ∧ k ≤ n := by rw [hk]; split <;> omega
  rw [← hk]
  (repeat (with_reducible first | refine st_move ?_ | refine st_assign ?_ | refine st_len ?_ | refine st_fieldAddr0 ?_ | refine st_fieldAddr ?_ | refine st_load M ?_ | refine st_loadAgg M ?_ | refine st_box M fun g w1 M => ?_ | refine st_alloc M fun g w1 M => ?_ | refine st_build_struct ?_ | refine st_build_arr ?_ | refine st_store M fun w1 M => ?_ | refine st_storeAgg0 M fun w1 M => ?_ | refine st_buildSlice M fun g w1 M => ?_ | refine hq_nil ?_ | refine hq_then_normal ?_ | refine hq_seq ?_ | refine hq_region ?_ | refine hq_block ?_ | refine hq_skip ?_ | refine hq_ret ?_ | refine hq_exit ?_ | refine hq_then_ret ?_ | refine hq_then_exit ?_ | refine hq_blk_normal ?_ | refine hq_blk_ret ?_ | refine hq_blk_exit ?_ | refine hq_blk_exit_ne ?_ | refine hq_cond_true ?_ | refine hq_cond_false ?_ | refine st_extract ?_ | refine hq_guard_yes ?_ | refine hq_guard_no ?_ | refine st_pick ?_ | refine st_nilCheck ?_ | refine st_not ?_ | refine st_cmp_yes ?_ | refine st_cmp_no ?_ | refine st_add ?_ | refine st_sub ?_ | refine st_rem ?_ | refine st_quo ?_ | refine st_mul ?_ | refine st_mask ?_ | refine st_eqb ?_ | refine st_neb ?_))
  refine st_callr M rfl (full_spec _ 2 2 [(F + a % S, k), (F, n - k)] _ (view_row M.r0) rfl (by omega)) fun A' c' w1 M => ?_
  (repeat (with_reducible first | refine st_move ?_ | refine st_assign ?_ | refine st_len ?_ | refine st_fieldAddr0 ?_ | refine st_fieldAddr ?_ | refine st_load M ?_ | refine st_loadAgg M ?_ | refine st_box M fun g w1 M => ?_ | refine st_alloc M fun g w1 M => ?_ | refine st_build_struct ?_ | refine st_build_arr ?_ | refine st_store M fun w1 M => ?_ | refine st_storeAgg0 M fun w1 M => ?_ | refine st_buildSlice M fun g w1 M => ?_ | refine hq_nil ?_ | refine hq_then_normal ?_ | refine hq_seq ?_ | refine hq_region ?_ | refine hq_block ?_ | refine hq_skip ?_ | refine hq_ret ?_ | refine hq_exit ?_ | refine hq_then_ret ?_ | refine hq_then_exit ?_ | refine hq_blk_normal ?_ | refine hq_blk_ret ?_ | refine hq_blk_exit ?_ | refine hq_blk_exit_ne ?_ | refine hq_cond_true ?_ | refine hq_cond_false ?_ | refine st_extract ?_ | refine hq_guard_yes ?_ | refine hq_guard_no ?_ | refine st_pick ?_ | refine st_nilCheck ?_ | refine st_not ?_ | refine st_cmp_yes ?_ | refine st_cmp_no ?_ | refine st_add ?_ | refine st_sub ?_ | refine st_rem ?_ | refine st_quo ?_ | refine st_mul ?_ | refine st_mask ?_ | refine st_eqb ?_ | refine st_neb ?_))
  have e1 : kept [(F + a % S, k), (F, n - k)] = spansI F S a n := by unfold spansI; rw [hk]
  rw [e1] at M ⊢
  exact hq_end1 ⟨A', c', rfl, M.only (by simp)⟩
set_option maxRecDepth 100000 in
theorem spans_no (F S H T a n : Int) (w : World) (h : ¬ SpOk F S H T a n) :
    Calls Try.prog 11 #[rg F S H T, iv a, iv n] w fun e w' => e = .returned (.slice none 0 0) ∧ Mem w [] [] w' := by
  have M := Mem.refl w
  refine enter ?_
  (repeat (with_reducible first | refine st_move ?_ | refine st_assign ?_ | refine st_len ?_ | refine st_fieldAddr0 ?_ | refine st_fieldAddr ?_ | refine st_load M ?_ | refine st_loadAgg M ?_ | refine st_box M fun g w1 M => ?_ | refine st_alloc M fun g w1 M => ?_ | refine st_build_struct ?_ | refine st_build_arr ?_ | refine st_store M fun w1 M => ?_ | refine st_storeAgg0 M fun w1 M => ?_ | refine st_buildSlice M fun g w1 M => ?_ | refine hq_nil ?_ | refine hq_then_normal ?_ | refine hq_seq ?_ | refine hq_region ?_ | refine hq_block ?_ | refine hq_skip ?_ | refine hq_ret ?_ | refine hq_exit ?_ | refine hq_then_ret ?_ | refine hq_then_exit ?_ | refine hq_blk_normal ?_ | refine hq_blk_ret ?_ | refine hq_blk_exit ?_ | refine hq_blk_exit_ne ?_ | refine hq_cond_true ?_ | refine hq_cond_false ?_ | refine st_extract ?_ | refine hq_guard_yes ?_ | refine hq_guard_no ?_ | refine st_pick ?_ | refine st_nilCheck ?_ | refine st_not ?_ | refine st_cmp_yes ?_ | refine st_cmp_no ?_ | refine st_add ?_ | refine st_sub ?_ | refine st_rem ?_ | refine st_quo ?_ | refine st_mul ?_ | refine st_mask ?_ | refine st_eqb ?_ | refine st_neb ?_))
  by_cases hp : Placed F S H T a
  · refine st_callv M rfl (place_yes F S H T a _ hp) fun w1 M => ?_
    (repeat (with_reducible first | refine st_move ?_ | refine st_assign ?_ | refine st_len ?_ | refine st_fieldAddr0 ?_ | refine st_fieldAddr ?_ | refine st_load M ?_ | refine st_loadAgg M ?_ | refine st_box M fun g w1 M => ?_ | refine st_alloc M fun g w1 M => ?_ | refine st_build_struct ?_ | refine st_build_arr ?_ | refine st_store M fun w1 M => ?_ | refine st_storeAgg0 M fun w1 M => ?_ | refine st_buildSlice M fun g w1 M => ?_ | refine hq_nil ?_ | refine hq_then_normal ?_ | refine hq_seq ?_ | refine hq_region ?_ | refine hq_block ?_ | refine hq_skip ?_ | refine hq_ret ?_ | refine hq_exit ?_ | refine hq_then_ret ?_ | refine hq_then_exit ?_ | refine hq_blk_normal ?_ | refine hq_blk_ret ?_ | refine hq_blk_exit ?_ | refine hq_blk_exit_ne ?_ | refine hq_cond_true ?_ | refine hq_cond_false ?_ | refine st_extract ?_ | refine hq_guard_yes ?_ | refine hq_guard_no ?_ | refine st_pick ?_ | refine st_nilCheck ?_ | refine st_not ?_ | refine st_cmp_yes ?_ | refine st_cmp_no ?_ | refine st_add ?_ | refine st_sub ?_ | refine st_rem ?_ | refine st_quo ?_ | refine st_mul ?_ | refine st_mask ?_ | refine st_eqb ?_ | refine st_neb ?_))
    refine st_callv M rfl (between_of _ 3 3 [0, n, S] false _ (view_row M.r0) rfl (by omega) (by rw [rises3]; exact decide_eq_false (fun g => h ⟨hp, g⟩))) fun w1 M => ?_
    (repeat (with_reducible first | refine st_move ?_ | refine st_assign ?_ | refine st_len ?_ | refine st_fieldAddr0 ?_ | refine st_fieldAddr ?_ | refine st_load M ?_ | refine st_loadAgg M ?_ | refine st_box M fun g w1 M => ?_ | refine st_alloc M fun g w1 M => ?_ | refine st_build_struct ?_ | refine st_build_arr ?_ | refine st_store M fun w1 M => ?_ | refine st_storeAgg0 M fun w1 M => ?_ | refine st_buildSlice M fun g w1 M => ?_ | refine hq_nil ?_ | refine hq_then_normal ?_ | refine hq_seq ?_ | refine hq_region ?_ | refine hq_block ?_ | refine hq_skip ?_ | refine hq_ret ?_ | refine hq_exit ?_ | refine hq_then_ret ?_ | refine hq_then_exit ?_ | refine hq_blk_normal ?_ | refine hq_blk_ret ?_ | refine hq_blk_exit ?_ | refine hq_blk_exit_ne ?_ | refine hq_cond_true ?_ | refine hq_cond_false ?_ | refine st_extract ?_ | refine hq_guard_yes ?_ | refine hq_guard_no ?_ | refine st_pick ?_ | refine st_nilCheck ?_ | refine st_not ?_ | refine st_cmp_yes ?_ | refine st_cmp_no ?_ | refine st_add ?_ | refine st_sub ?_ | refine st_rem ?_ | refine st_quo ?_ | refine st_mul ?_ | refine st_mask ?_ | refine st_eqb ?_ | refine st_neb ?_))
    exact hq_end1 ⟨rfl, M.dropAll⟩
  · refine st_callv M rfl (place_no F S H T a _ hp) fun w1 M => ?_
    (repeat (with_reducible first | refine st_move ?_ | refine st_assign ?_ | refine st_len ?_ | refine st_fieldAddr0 ?_ | refine st_fieldAddr ?_ | refine st_load M ?_ | refine st_loadAgg M ?_ | refine st_box M fun g w1 M => ?_ | refine st_alloc M fun g w1 M => ?_ | refine st_build_struct ?_ | refine st_build_arr ?_ | refine st_store M fun w1 M => ?_ | refine st_storeAgg0 M fun w1 M => ?_ | refine st_buildSlice M fun g w1 M => ?_ | refine hq_nil ?_ | refine hq_then_normal ?_ | refine hq_seq ?_ | refine hq_region ?_ | refine hq_block ?_ | refine hq_skip ?_ | refine hq_ret ?_ | refine hq_exit ?_ | refine hq_then_ret ?_ | refine hq_then_exit ?_ | refine hq_blk_normal ?_ | refine hq_blk_ret ?_ | refine hq_blk_exit ?_ | refine hq_blk_exit_ne ?_ | refine hq_cond_true ?_ | refine hq_cond_false ?_ | refine st_extract ?_ | refine hq_guard_yes ?_ | refine hq_guard_no ?_ | refine st_pick ?_ | refine st_nilCheck ?_ | refine st_not ?_ | refine st_cmp_yes ?_ | refine st_cmp_no ?_ | refine st_add ?_ | refine st_sub ?_ | refine st_rem ?_ | refine st_quo ?_ | refine st_mul ?_ | refine st_mask ?_ | refine st_eqb ?_ | refine st_neb ?_))
    exact hq_end1 ⟨rfl, M.dropAll⟩
end Go.Proofs.Ytdgbgnkfjcbgiaa
