/-
  The law PageZero: for every input the call returns true and each argument reads as it read before.
-/
import Derived.Test.YtajafjnegbmdbaaRows
import Derived.Test.YtajafjnegbmdbaaSf
import Derived.Test.YtajafjnegbmdbaaPj
namespace Go.Proofs.Ytajafjnegbmdbaa.pageZero
open Go.ChangeShapes Go.WideShapes Go.ChangeAt Go.RowKit Go.Joins Sx
open Go.ChangeMaps (open_string shut_string)
set_option linter.unusedVariables false

theorem own : ownKnob Try.prog.godebug = none := by kernel_rfl
theorem laidOut : laidOutB Try.prog = true := by kernel_rfl

set_option maxRecDepth 100000 in
set_option maxHeartbeats 1000000 in
theorem lifted (os : Os) (started : os.Started) (H : Type) (enc : TypeId × Value → H) :
    ReturnsInHanded {} Try.checked os 5 .any (Rows.pageZeroSpec.pre6 enc Try.prog Try.f5 Rows.pageZeroRow.domain false) (Rows.pageZeroSpec.post enc Try.prog Try.f5 false true false false) := by
  refine returnsInHanded_of_change_sized (C := Try.checked) own started (by kernel_rfl) Try.func5
    (ChangeSpec.witness6 (enc := enc) (C := Try.checked) false ⟨#[], #[.int .i64 0], []⟩ 8 (by kernel_rfl) (by kernel_rfl) (by kernel_rfl) (by kernel_rfl)) ?_
  intro W base args ds gs before hval0 hW hcnd hsz0 _
  have hsz : (DataW.weightsEach Try.prog (Try.f5.params.toList ++ Rows.pageZeroSpec.plain.varTypes Try.prog) (ds ++ gs)).all (· ≤ reachBytes) = true := hsz0
  have hval : ∀ (j : Nat) t v, Try.f5.params[j]? = some t → args[j]? = some v → Value.okWide Try.prog W .any base t v := hval0
  have hW' := hW
  obtain ⟨p, q, hA0, hV, rfl, hfz, hnd⟩ := hW
  have hA : DataW.TrodAll enc Try.prog W 0 (fun _ => true) true Try.f5.params.toList args.toList ds p := hA0
  rw [Try.params5] at hA hval hsz
  obtain ⟨v0, vs0, d0, ds0, p0, q0, hargs, rfl, rfl, h0, r0⟩ := trodAll_cons hA
  obtain ⟨rfl, rfl, rfl⟩ := trodAll_nil r0
  obtain rfl : args = #[v0] := by cases args; simp_all
  obtain ⟨rfl, rfl⟩ := trodVars_none hV
  obtain ⟨a0, rfl, rfl, rfl, w0⟩ := open_int Try.underlying3 (hval 0 3 v0 rfl rfl) h0
  have i0 := wf_i64 w0
  clear hA0 hval0 hsz0 hsz
  refine (pageZero_walk a0 W).mono fun e W' ⟨he, hg⟩ => ?_
  subst he
  have bel := hg.below
  exact ⟨_, rfl, _, _, _, [], _, [], hW', trodAll_mk1 (shut_bool Try.underlying4 _), (trodAll_cons_mk (shut_int Try.underlying3 w0) trodAll_mk0), rfl, bel.frame _, fun h => by cases h⟩

theorem named : Try.pinned.checked.prog.funcNamed Rows.pageZeroRow.func = some 5 := by kernel_rfl
set_option maxHeartbeats 4000000 in
theorem closed : joinedFacts Try.pinned.checked.prog 5 Try.f5 Rows.pageZeroSpec Rows.pageZeroRow = true := by
  unfold joinedFacts
  simp only [Bool.and_eq_true]
  repeat' apply And.intro
  all_goals (as_aux_lemma => kernel_rfl)
theorem inst : Try.f5.isInstance Try.pinned.checked.prog Rows.pageZeroRow.origin Rows.pageZeroRow.targs := of_decide_eq_true (by kernel_rfl)
theorem wrapper : Try.f5.isWrapper Try.pinned.checked.prog Rows.pageZeroRow.wrapper Rows.pageZeroRow.mainSum := by
  unfold Func.isWrapper
  rw [if_neg (by decide +kernel)]
  exact ⟨rfl, rfl⟩
theorem over : Rows.pageZeroRow.holds Try.pinned (OpenSpec.ofChange Rows.pageZeroSpec) :=
  OpenClaim.holds_of_wide 5 Try.f5 rfl rfl rfl rfl rfl rfl rfl ⟨rfl, rfl, rfl, rfl, rfl⟩ rfl rfl rfl rfl rfl named Try.func5 closed inst wrapper
    (fun os started H enc _ => lifted os started H enc)

theorem proved : Rows.PageZeroSaid :=
  over
#print axioms proved
end Go.Proofs.Ytajafjnegbmdbaa.pageZero
