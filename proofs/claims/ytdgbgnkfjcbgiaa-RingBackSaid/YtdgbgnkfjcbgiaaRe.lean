/-
  Law RingSpans' walk: lots have as many sectors as places, in order.
-/
import Derived.Test.YtdgbgnkfjcbgiaaRd
set_option linter.unusedVariables false
namespace Go.Proofs.Ytdgbgnkfjcbgiaa
open Go Go.RowKit Sx

theorem emod_near {S p x : Int} (h0 : 0 ≤ p % S + x) (h1 : p % S + x < S) : (p + x) % S = p % S + x := by
  have e := Int.emod_add_mul_ediv p S
  have : p + x = (p % S + x) + S * (p / S) := by omega
  rw [this, Int.add_mul_emod_self_left, Int.emod_eq_of_lt h0 h1]
theorem emod_over {S p x : Int} (h0 : S ≤ p % S + x) (h1 : p % S + x < S + S) : (p + x) % S = p % S + x - S := by
  have e := Int.emod_add_mul_ediv p S
  have : p + x = (p % S + x - S) + S * (p / S + 1) := by rw [Int.mul_add]; omega
  rw [this, Int.add_mul_emod_self_left, Int.emod_eq_of_lt (by omega) (by omega)]
/-- How many places the lots have. -/
def tot (ps : List (Int × Int)) : Int := ps.foldr (fun x a => x.2 + a) 0
theorem tot_take_succ : ∀ (ps : List (Int × Int)) (j : Nat) (x : Int × Int), ps[j]? = some x → tot (ps.take (j + 1)) = tot (ps.take j) + x.2
  | y :: ps, 0, x, h => by simp at h; subst h; simp [tot]
  | y :: ps, j + 1, x, h => by
    have := tot_take_succ ps j x (by simpa using h)
    simp only [List.take_succ_cons]
    simp only [tot, List.foldr_cons] at this ⊢
    omega
theorem prs_get : ∀ (ps : List (Int × Int)) (j : Nat) (x : Int × Int), ps[j]? = some x → (prs ps)[j * 2]? = some (iv x.1) ∧ (prs ps)[j * 2 + 1]? = some (iv x.2)
  | y :: ps, 0, x, h => by simp at h; subst h; exact ⟨rfl, rfl⟩
  | y :: ps, j + 1, x, h => by
    have := prs_get ps j x (by simpa using h)
    rw [show (j + 1) * 2 = j * 2 + 1 + 1 from by omega]
    simpa [prs] using this
/-- What the lots are, place by place. -/
theorem spansI_ok {F S p k : Int} (hS : 1 ≤ S) (hk : 0 ≤ k ∧ k ≤ S) : tot (spansI F S p k) = k ∧ (spansI F S p k).length ≤ 2 ∧
    ∀ (j : Nat) (x : Int × Int), (spansI F S p k)[j]? = some x → 0 ≤ tot ((spansI F S p k).take j) ∧ 1 ≤ x.2 ∧ tot ((spansI F S p k).take j) + x.2 ≤ k ∧ ∀ m : Int, 0 ≤ m → m < x.2 → (p + (tot ((spansI F S p k).take j) + m)) % S + F = x.1 + m := by
  have hm : 0 ≤ p % S ∧ p % S < S := ⟨Int.emod_nonneg _ (by omega), Int.emod_lt_of_pos _ (by omega)⟩
  unfold spansI
  dsimp only
  generalize hf : (if S - p % S < k then S - p % S else k) = c
  have hc : (c = S - p % S ∧ c < k) ∨ (c = k ∧ k ≤ S - p % S) := by
    rw [← hf]; split <;> omega
  unfold kept
  by_cases h1 : 0 < c
  · by_cases h2 : 0 < k - c
    · simp only [List.filter_cons, h1, h2, decide_true, if_true, List.filter_nil]
      refine ⟨by simp only [tot, List.foldr_cons, List.foldr_nil]; omega, by simp, fun j x hx => ?_⟩
      rcases j with _ | _ | j
      · simp at hx; subst hx
        simp only [List.take_zero, tot, List.foldr_nil]
        refine ⟨by omega, by omega, by omega, fun m h3 h4 => ?_⟩
        rw [Int.zero_add, emod_near (by omega) (by omega)]; omega
      · simp at hx; subst hx
        simp only [List.take_succ_cons, List.take_zero, tot, List.foldr_cons, List.foldr_nil]
        refine ⟨by omega, by omega, by omega, fun m h3 h4 => ?_⟩
        rw [emod_over (by omega) (by omega)]; omega
      · simp at hx
    · simp only [List.filter_cons, h1, h2, decide_true, decide_false, if_true, List.filter_nil]
      refine ⟨by simp [tot]; omega, by simp, fun j x hx => ?_⟩
      rcases j with _ | j
      · simp at hx; subst hx
        simp only [List.take_zero, tot, List.foldr_nil]
        refine ⟨by omega, by omega, by omega, fun m h3 h4 => ?_⟩
        rw [Int.zero_add, emod_near (by omega) (by omega)]; omega
      · simp at hx
  · have h2 : ¬ 0 < k - c := by omega
    simp only [List.filter_cons, h1, h2, decide_false, List.filter_nil]
    exact ⟨by simp [tot]; omega, by simp, fun j x hx => by simp at hx⟩

set_option maxRecDepth 100000 in
theorem ringSpans_walk (a0 a1 a2 a3 : Int) (w : World) : Calls Try.prog 4 #[.int .i64 a0, .int .i64 a1, .int .i64 a2, .int .i64 a3] w fun e w' => e = .returned (.bool true) ∧ Mem w [] [] w' := by
  have M := Mem.refl w
  refine enter ?_
  (repeat (with_reducible first | refine st_move ?_ | refine st_assign ?_ | refine st_len ?_ | refine st_fieldAddr0 ?_ | refine st_fieldAddr ?_ | refine st_load M ?_ | refine st_loadAgg M ?_ | refine st_box M fun g w1 M => ?_ | refine st_alloc M fun g w1 M => ?_ | refine st_build_struct ?_ | refine st_build_arr ?_ | refine st_store M fun w1 M => ?_ | refine st_storeAgg0 M fun w1 M => ?_ | refine st_buildSlice M fun g w1 M => ?_ | refine hq_nil ?_ | refine hq_then_normal ?_ | refine hq_seq ?_ | refine hq_region ?_ | refine hq_block ?_ | refine hq_skip ?_ | refine hq_ret ?_ | refine hq_exit ?_ | refine hq_then_ret ?_ | refine hq_then_exit ?_ | refine hq_blk_normal ?_ | refine hq_blk_ret ?_ | refine hq_blk_exit ?_ | refine hq_blk_exit_ne ?_ | refine hq_cond_true ?_ | refine hq_cond_false ?_ | refine st_extract ?_ | refine hq_guard_yes ?_ | refine hq_guard_no ?_ | refine st_pick ?_ | refine st_nilCheck ?_ | refine st_not ?_ | refine st_cmp_yes ?_ | refine st_cmp_no ?_ | refine st_add ?_ | refine st_sub ?_ | refine st_rem ?_ | refine st_quo ?_ | refine st_mul ?_ | refine st_mask ?_ | refine st_eqb ?_ | refine st_neb ?_))
  refine st_callv M rfl (awake05 _) fun w1 M => ?_
  obtain ⟨F, hF⟩ : ∃ F, F = a0 % 1024 := ⟨_, rfl⟩
  obtain ⟨S, hS⟩ : ∃ S, S = 1 + a1 % 256 := ⟨_, rfl⟩
  obtain ⟨p, hp⟩ : ∃ p, p = a2 % 16777216 := ⟨_, rfl⟩
  obtain ⟨k, hk⟩ : ∃ k, k = a3 % 65536 % (S + 1) := ⟨_, rfl⟩
  have bF : 0 ≤ F ∧ F ≤ 1023 := by omega
  have bS : 1 ≤ S ∧ S ≤ 256 := by omega
  have bp : 0 ≤ p ∧ p < 16777216 := by omega
  have bk : 0 ≤ k ∧ k ≤ S := by rw [hk]; exact ⟨Int.emod_nonneg _ (by omega), Int.lt_add_one_iff.1 (Int.emod_lt_of_pos _ (by omega))⟩
  have hsane : Sane F S 0 0 := by unfold Sane; omega
  have bk0 : 0 ≤ a3 % 65536 % (1 + a1 % 256 + 1) ∧ a3 % 65536 % (1 + a1 % 256 + 1) ≤ 1 + a1 % 256 := by rw [← hS, ← hk]; exact bk
  (repeat (with_reducible first | refine st_move ?_ | refine st_assign ?_ | refine st_len ?_ | refine st_fieldAddr0 ?_ | refine st_fieldAddr ?_ | refine st_load M ?_ | refine st_loadAgg M ?_ | refine st_box M fun g w1 M => ?_ | refine st_alloc M fun g w1 M => ?_ | refine st_build_struct ?_ | refine st_build_arr ?_ | refine st_store M fun w1 M => ?_ | refine st_storeAgg0 M fun w1 M => ?_ | refine st_buildSlice M fun g w1 M => ?_ | refine hq_nil ?_ | refine hq_then_normal ?_ | refine hq_seq ?_ | refine hq_region ?_ | refine hq_block ?_ | refine hq_skip ?_ | refine hq_ret ?_ | refine hq_exit ?_ | refine hq_then_ret ?_ | refine hq_then_exit ?_ | refine hq_blk_normal ?_ | refine hq_blk_ret ?_ | refine hq_blk_exit ?_ | refine hq_blk_exit_ne ?_ | refine hq_cond_true ?_ | refine hq_cond_false ?_ | refine st_extract ?_ | refine hq_guard_yes ?_ | refine hq_guard_no ?_ | refine st_pick ?_ | refine st_nilCheck ?_ | refine st_not ?_ | refine st_cmp_yes ?_ | refine st_cmp_no ?_ | refine st_add ?_ | refine st_sub ?_ | refine st_rem ?_ | refine st_quo ?_ | refine st_mul ?_ | refine st_mask ?_ | refine st_eqb ?_ | refine st_neb ?_))
  refine st_callr M rfl (spans_yes (a0 % 1024) (1 + a1 % 256) 0 0 (a2 % 16777216) (a3 % 65536 % (1 + a1 % 256 + 1)) _ (by rw [← hF, ← hS, ← hp, ← hk]; exact ⟨⟨hsane, by omega⟩, bk⟩)) fun A c w1 M => ?_
  rw [← hF, ← hS, ← hp, ← hk] at M ⊢
  clear bk0
  obtain ⟨ht, hl, hps⟩ := spansI_ok (F := F) (p := p) bS.1 bk
  generalize spansI F S p k = ps at *
  (repeat (with_reducible first | refine st_move ?_ | refine st_assign ?_ | refine st_len ?_ | refine st_fieldAddr0 ?_ | refine st_fieldAddr ?_ | refine st_load M ?_ | refine st_loadAgg M ?_ | refine st_box M fun g w1 M => ?_ | refine st_alloc M fun g w1 M => ?_ | refine st_build_struct ?_ | refine st_build_arr ?_ | refine st_store M fun w1 M => ?_ | refine st_storeAgg0 M fun w1 M => ?_ | refine st_buildSlice M fun g w1 M => ?_ | refine hq_nil ?_ | refine hq_then_normal ?_ | refine hq_seq ?_ | refine hq_region ?_ | refine hq_block ?_ | refine hq_skip ?_ | refine hq_ret ?_ | refine hq_exit ?_ | refine hq_then_ret ?_ | refine hq_then_exit ?_ | refine hq_blk_normal ?_ | refine hq_blk_ret ?_ | refine hq_blk_exit ?_ | refine hq_blk_exit_ne ?_ | refine hq_cond_true ?_ | refine hq_cond_false ?_ | refine st_extract ?_ | refine hq_guard_yes ?_ | refine hq_guard_no ?_ | refine st_pick ?_ | refine st_nilCheck ?_ | refine st_not ?_ | refine st_cmp_yes ?_ | refine st_cmp_no ?_ | refine st_add ?_ | refine st_sub ?_ | refine st_rem ?_ | refine st_quo ?_ | refine st_mul ?_ | refine st_mask ?_ | refine st_eqb ?_ | refine st_neb ?_))
  refine hq_loop (ι := Nat) (fun j => [(9, .bool true), (10, .pointer (some ⟨g, 0, none⟩)), (11, iv p), (12, iv k), (13, .slice A ps.length c), (14, iv (tot (ps.take j))), (15, iv (j : Int))])
    (fun j wr => j ≤ ps.length ∧ Mem w [] [.row A ps.length c (prs ps) 29 2, .blk g [iv F, iv S, iv 0, iv 0] 24] wr) (fun j _ => ps.length - j) 0 ⟨Nat.zero_le _, M⟩ ?_
  rintro j wr ⟨hj, M⟩
  by_cases hlt : j < ps.length
  · obtain ⟨x, hx⟩ : ∃ x, ps[j]? = some x := ⟨ps[j], by rw [List.getElem?_eq_getElem]⟩
    obtain ⟨t0, x1, tx, hsec⟩ := hps j x hx
    have hA : A.isSome = true := (view_row M.r0).some (by rw [prs_length]; omega)
    obtain ⟨g1, g2⟩ := prs_get ps j x hx
    have hts := tot_take_succ ps j x hx
    generalize tot (ps.take j) = o at *
    (repeat (with_reducible first | (refine st_at (j * 2) hA ?_) | (refine st_at_elt (j * 2 + 1) hA ?_) | (refine st_load_view (view_row M.r0) ?_ (hc := g2)) | refine st_move ?_ | refine st_assign ?_ | refine st_len ?_ | refine st_fieldAddr0 ?_ | refine st_fieldAddr ?_ | refine st_load M ?_ | refine st_loadAgg M ?_ | refine st_box M fun g w1 M => ?_ | refine st_alloc M fun g w1 M => ?_ | refine st_build_struct ?_ | refine st_build_arr ?_ | refine st_store M fun w1 M => ?_ | refine st_storeAgg0 M fun w1 M => ?_ | refine st_buildSlice M fun g w1 M => ?_ | refine hq_nil ?_ | refine hq_then_normal ?_ | refine hq_seq ?_ | refine hq_region ?_ | refine hq_block ?_ | refine hq_skip ?_ | refine hq_ret ?_ | refine hq_exit ?_ | refine hq_then_ret ?_ | refine hq_then_exit ?_ | refine hq_blk_normal ?_ | refine hq_blk_ret ?_ | refine hq_blk_exit ?_ | refine hq_blk_exit_ne ?_ | refine hq_cond_true ?_ | refine hq_cond_false ?_ | refine st_extract ?_ | refine hq_guard_yes ?_ | refine hq_guard_no ?_ | refine st_pick ?_ | refine st_nilCheck ?_ | refine st_not ?_ | refine st_cmp_yes ?_ | refine st_cmp_no ?_ | refine st_add ?_ | refine st_sub ?_ | refine st_rem ?_ | refine st_quo ?_ | refine st_mul ?_ | refine st_mask ?_ | refine st_eqb ?_ | refine st_neb ?_))
    refine hq_loop (ι := Nat) (fun m => [(9, .bool true), (10, .pointer (some ⟨g, 0, none⟩)), (11, iv p), (12, iv k), (13, .slice A ps.length c), (14, iv (o + (m : Int))), (15, iv (j : Int)), (16, iv (m : Int))])
      (fun m wr => (m : Int) ≤ x.2 ∧ Mem w [] [.row A ps.length c (prs ps) 29 2, .blk g [iv F, iv S, iv 0, iv 0] 24] wr) (fun m _ => (x.2 - m).toNat) 0 ⟨by omega, M⟩ ?_ ?_
    · rintro m wr ⟨hm, M⟩
      by_cases hml : (m : Int) < x.2
      · have hs := hsec m (by omega) hml
        have hr : 0 ≤ (p + (o + m)) % S ∧ (p + (o + m)) % S < S := ⟨Int.emod_nonneg _ (by omega), Int.emod_lt_of_pos _ (by omega)⟩
        (repeat (with_reducible first | (refine st_at (j * 2) hA ?_) | (refine st_at_elt (j * 2 + 1) hA ?_) | (refine st_load_view (view_row M.r0) ?_ (hc := g2)) | refine st_move ?_ | refine st_assign ?_ | refine st_len ?_ | refine st_fieldAddr0 ?_ | refine st_fieldAddr ?_ | refine st_load M ?_ | refine st_loadAgg M ?_ | refine st_box M fun g w1 M => ?_ | refine st_alloc M fun g w1 M => ?_ | refine st_build_struct ?_ | refine st_build_arr ?_ | refine st_store M fun w1 M => ?_ | refine st_storeAgg0 M fun w1 M => ?_ | refine st_buildSlice M fun g w1 M => ?_ | refine hq_nil ?_ | refine hq_then_normal ?_ | refine hq_seq ?_ | refine hq_region ?_ | refine hq_block ?_ | refine hq_skip ?_ | refine hq_ret ?_ | refine hq_exit ?_ | refine hq_then_ret ?_ | refine hq_then_exit ?_ | refine hq_blk_normal ?_ | refine hq_blk_ret ?_ | refine hq_blk_exit ?_ | refine hq_blk_exit_ne ?_ | refine hq_cond_true ?_ | refine hq_cond_false ?_ | refine st_extract ?_ | refine hq_guard_yes ?_ | refine hq_guard_no ?_ | refine st_pick ?_ | refine st_nilCheck ?_ | refine st_not ?_ | refine st_cmp_yes ?_ | refine st_cmp_no ?_ | refine st_add ?_ | refine st_sub ?_ | refine st_rem ?_ | refine st_quo ?_ | refine st_mul ?_ | refine st_mask ?_ | refine st_eqb ?_ | refine st_neb ?_))
        refine hq_dag [(9, .bool true), (10, .pointer (some ⟨g, 0, none⟩)), (11, iv p), (12, iv k), (14, iv (o + (m : Int))), (13, .slice A ps.length c), (15, iv (j : Int)), (16, iv (m : Int))] ?_
        (repeat ((with_reducible apply dag_is); (intro w' a lz hE hF hK; have M := M.ext hE; (repeat (with_reducible first | refine st_move ?_ | refine st_assign ?_ | refine st_len ?_ | refine st_fieldAddr0 ?_ | refine st_fieldAddr ?_ | refine st_load M ?_ | refine st_loadAgg M ?_ | refine st_box M fun g w1 M => ?_ | refine st_alloc M fun g w1 M => ?_ | refine st_build_struct ?_ | refine st_build_arr ?_ | refine st_store M fun w1 M => ?_ | refine st_storeAgg0 M fun w1 M => ?_ | refine st_buildSlice M fun g w1 M => ?_ | refine hq_nil ?_ | refine hq_then_normal ?_ | refine hq_seq ?_ | refine hq_region ?_ | refine hq_block ?_ | refine hq_skip ?_ | refine hq_ret ?_ | refine hq_exit ?_ | refine hq_then_ret ?_ | refine hq_then_exit ?_ | refine hq_blk_normal ?_ | refine hq_blk_ret ?_ | refine hq_blk_exit ?_ | refine hq_blk_exit_ne ?_ | refine hq_cond_true ?_ | refine hq_cond_false ?_ | refine st_extract ?_ | refine hq_guard_yes ?_ | refine hq_guard_no ?_ | refine st_pick ?_ | refine st_nilCheck ?_ | refine st_not ?_ | refine st_cmp_yes ?_ | refine st_cmp_no ?_ | refine st_add ?_ | refine st_sub ?_ | refine st_rem ?_ | refine st_quo ?_ | refine st_mul ?_ | refine st_mask ?_ | refine st_eqb ?_ | refine st_neb ?_)); exact dag_endis hF)))
        (with_reducible apply dag_is); (intro w' a lz hE hF hK; have M := M.ext hE; (repeat (with_reducible first | refine hq_guard_yes ?_)); exact dag_callv hF rfl (sector_yes F S 0 0 (p + (o + m)) _ ⟨hsane, by omega⟩))
        (repeat ((with_reducible apply dag_is); (intro w' a lz hE hF hK; have M := M.ext hE; (repeat (with_reducible first | (refine st_at (j * 2) hA ?_) | (refine st_at_elt (j * 2) hA ?_) | (refine st_load_view (view_row M.r0) ?_ (hc := g1)) | refine st_move ?_ | refine st_assign ?_ | refine st_len ?_ | refine st_fieldAddr0 ?_ | refine st_fieldAddr ?_ | refine st_load M ?_ | refine st_loadAgg M ?_ | refine st_box M fun g w1 M => ?_ | refine st_alloc M fun g w1 M => ?_ | refine st_build_struct ?_ | refine st_build_arr ?_ | refine st_store M fun w1 M => ?_ | refine st_storeAgg0 M fun w1 M => ?_ | refine st_buildSlice M fun g w1 M => ?_ | refine hq_nil ?_ | refine hq_then_normal ?_ | refine hq_seq ?_ | refine hq_region ?_ | refine hq_block ?_ | refine hq_skip ?_ | refine hq_ret ?_ | refine hq_exit ?_ | refine hq_then_ret ?_ | refine hq_then_exit ?_ | refine hq_blk_normal ?_ | refine hq_blk_ret ?_ | refine hq_blk_exit ?_ | refine hq_blk_exit_ne ?_ | refine hq_cond_true ?_ | refine hq_cond_false ?_ | refine st_extract ?_ | refine hq_guard_yes ?_ | refine hq_guard_no ?_ | refine st_pick ?_ | refine st_nilCheck ?_ | refine st_not ?_ | refine st_cmp_yes ?_ | refine st_cmp_no ?_ | refine st_add ?_ | refine st_sub ?_ | refine st_rem ?_ | refine st_quo ?_ | refine st_mul ?_ | refine st_mask ?_ | refine st_eqb ?_ | refine st_neb ?_)); exact dag_endis hF)))
        refine dag_nil (dag_done (fun w2 hE => ?_)); have M := M.ext hE
        (repeat (with_reducible first | refine st_move ?_ | refine st_assign ?_ | refine st_len ?_ | refine st_fieldAddr0 ?_ | refine st_fieldAddr ?_ | refine st_load M ?_ | refine st_loadAgg M ?_ | refine st_box M fun g w1 M => ?_ | refine st_alloc M fun g w1 M => ?_ | refine st_build_struct ?_ | refine st_build_arr ?_ | refine st_store M fun w1 M => ?_ | refine st_storeAgg0 M fun w1 M => ?_ | refine st_buildSlice M fun g w1 M => ?_ | refine hq_nil ?_ | refine hq_then_normal ?_ | refine hq_seq ?_ | refine hq_region ?_ | refine hq_block ?_ | refine hq_skip ?_ | refine hq_ret ?_ | refine hq_exit ?_ | refine hq_then_ret ?_ | refine hq_then_exit ?_ | refine hq_blk_normal ?_ | refine hq_blk_ret ?_ | refine hq_blk_exit ?_ | refine hq_blk_exit_ne ?_ | refine hq_cond_true ?_ | refine hq_cond_false ?_ | refine st_extract ?_ | refine hq_guard_yes ?_ | refine hq_guard_no ?_ | refine st_pick ?_ | refine st_nilCheck ?_ | refine st_not ?_ | refine st_cmp_yes ?_ | refine st_cmp_no ?_ | refine st_add ?_ | refine st_sub ?_ | refine st_rem ?_ | refine st_quo ?_ | refine st_mul ?_ | refine st_mask ?_ | refine st_eqb ?_ | refine st_neb ?_))
        refine hq_round (m + 1) ⟨by omega, M⟩ (hsub := ?_)
        have e1 : o + ((m + 1 : Nat) : Int) = o + m + 1 := by omega
        have e2 : ((m + 1 : Nat) : Int) = m + 1 := by omega
        rw [e1, e2]
        (repeat (first | exact Sub.nil _ | refine Sub.cons rfl ?_))
      · (repeat (with_reducible first | (refine st_at (j * 2) hA ?_) | (refine st_at_elt (j * 2 + 1) hA ?_) | (refine st_load_view (view_row M.r0) ?_ (hc := g2)) | refine st_move ?_ | refine st_assign ?_ | refine st_len ?_ | refine st_fieldAddr0 ?_ | refine st_fieldAddr ?_ | refine st_load M ?_ | refine st_loadAgg M ?_ | refine st_box M fun g w1 M => ?_ | refine st_alloc M fun g w1 M => ?_ | refine st_build_struct ?_ | refine st_build_arr ?_ | refine st_store M fun w1 M => ?_ | refine st_storeAgg0 M fun w1 M => ?_ | refine st_buildSlice M fun g w1 M => ?_ | refine hq_nil ?_ | refine hq_then_normal ?_ | refine hq_seq ?_ | refine hq_region ?_ | refine hq_block ?_ | refine hq_skip ?_ | refine hq_ret ?_ | refine hq_exit ?_ | refine hq_then_ret ?_ | refine hq_then_exit ?_ | refine hq_blk_normal ?_ | refine hq_blk_ret ?_ | refine hq_blk_exit ?_ | refine hq_blk_exit_ne ?_ | refine hq_cond_true ?_ | refine hq_cond_false ?_ | refine st_extract ?_ | refine hq_guard_yes ?_ | refine hq_guard_no ?_ | refine st_pick ?_ | refine st_nilCheck ?_ | refine st_not ?_ | refine st_cmp_yes ?_ | refine st_cmp_no ?_ | refine st_add ?_ | refine st_sub ?_ | refine st_rem ?_ | refine st_quo ?_ | refine st_mul ?_ | refine st_mask ?_ | refine st_eqb ?_ | refine st_neb ?_))
        have em : (m : Int) = x.2 := by omega
        refine hq_round (j + 1) ⟨by omega, M⟩ (hsub := ?_)
        rw [hts, ← em]
        (repeat (first | exact Sub.nil _ | refine Sub.cons rfl ?_))
    · simp only [Int.natCast_zero, Int.add_zero]
      (repeat (first | exact Sub.nil _ | refine Sub.cons rfl ?_))
  · have ej : j = ps.length := by omega
    subst ej
    rw [List.take_of_length_le (Nat.le_refl _), ht]
    (repeat (with_reducible first | refine st_move ?_ | refine st_assign ?_ | refine st_len ?_ | refine st_fieldAddr0 ?_ | refine st_fieldAddr ?_ | refine st_load M ?_ | refine st_loadAgg M ?_ | refine st_box M fun g w1 M => ?_ | refine st_alloc M fun g w1 M => ?_ | refine st_build_struct ?_ | refine st_build_arr ?_ | refine st_store M fun w1 M => ?_ | refine st_storeAgg0 M fun w1 M => ?_ | refine st_buildSlice M fun g w1 M => ?_ | refine hq_nil ?_ | refine hq_then_normal ?_ | refine hq_seq ?_ | refine hq_region ?_ | refine hq_block ?_ | refine hq_skip ?_ | refine hq_ret ?_ | refine hq_exit ?_ | refine hq_then_ret ?_ | refine hq_then_exit ?_ | refine hq_blk_normal ?_ | refine hq_blk_ret ?_ | refine hq_blk_exit ?_ | refine hq_blk_exit_ne ?_ | refine hq_cond_true ?_ | refine hq_cond_false ?_ | refine st_extract ?_ | refine hq_guard_yes ?_ | refine hq_guard_no ?_ | refine st_pick ?_ | refine st_nilCheck ?_ | refine st_not ?_ | refine st_cmp_yes ?_ | refine st_cmp_no ?_ | refine st_add ?_ | refine st_sub ?_ | refine st_rem ?_ | refine st_quo ?_ | refine st_mul ?_ | refine st_mask ?_ | refine st_eqb ?_ | refine st_neb ?_))
    exact hq_end1 ⟨rfl, M.dropAll⟩
end Go.Proofs.Ytdgbgnkfjcbgiaa
