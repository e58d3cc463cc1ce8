/-
  The law RingIs: for every input the call returns true and each argument reads as it read before.
-/
import Derived.Test.YtdgbgnkfjcbgiaaRows
import Derived.Test.YtdgbgnkfjcbgiaaSf
import Derived.Test.YtdgbgnkfjcbgiaaRj
import Derived.WalkKit
import Derived.ProofKit
import Derived.OpenShut
import Derived.ShutString
import Derived.Lib.SmallJoins
namespace Go.Proofs.Ytdgbgnkfjcbgiaa.ringIs
open Go.ChangeShapes Go.WideShapes Go.ChangeAt Go.RowKit Go.Joins
open Go.ChangeMaps (open_string shut_string)
set_option linter.unusedVariables false

theorem own : ownKnob Try.prog.godebug = none := by kernel_rfl
theorem cells38 : Try.prog.cellsOf 38 = 4 := by kernel_rfl

set_option maxRecDepth 100000 in
set_option maxHeartbeats 1000000 in
theorem lifted (os : Os) (started : os.Started) (H : Type) (enc : TypeId × Value → H) :
    ReturnsInHanded {} Try.checked os 7 .any (Rows.ringIsSpec.pre6 enc Try.prog Try.f7 Rows.ringIsRow.domain false) (Rows.ringIsSpec.post enc Try.prog Try.f7 false true false false) := by
  refine returnsInHanded_of_change (C := Try.checked) own started (by kernel_rfl) Try.func7
    (ChangeSpec.witness6 (enc := enc) (C := Try.checked) false ⟨#[], #[.agg #[.int .i64 0, .int .i64 0, .int .i64 0, .int .i64 0], .int .i64 0, .int .i64 0], []⟩ 8 (by kernel_rfl) (by kernel_rfl) (by kernel_rfl) (by kernel_rfl)) ?_
  intro W base args ds gs before hval0 hW hcnd _
  have hval : ∀ (j : Nat) t v, Try.f7.params[j]? = some t → args[j]? = some v → Value.okWide Try.prog W .any base t v := hval0
  have hW' := hW
  obtain ⟨p, q, hA0, hV, rfl, hfz, hnd⟩ := hW
  have hA : DataW.TrodAll enc Try.prog W 0 (fun _ => true) true Try.f7.params.toList args.toList ds p := hA0
  rw [Try.params7] at hA hval
  obtain ⟨v0, vs0, d0, ds0, p0, q0, hargs, rfl, rfl, h0, r0⟩ := trodAll_cons hA
  obtain ⟨v1, vs1, d1, ds1, p1, q1, rfl, rfl, rfl, h1, r1⟩ := trodAll_cons r0
  obtain ⟨v2, vs2, d2, ds2, p2, q2, rfl, rfl, rfl, h2, r2⟩ := trodAll_cons r1
  obtain ⟨rfl, rfl, rfl⟩ := trodAll_nil r2
  obtain rfl : args = #[v0, v1, v2] := by cases args; simp_all
  obtain ⟨rfl, rfl⟩ := trodVars_none hV
  obtain ⟨c0_0, c0_1, c0_2, c0_3, y0_0, y0_1, y0_2, y0_3, m0, rfl, rfl, rfl, hy0_0, hy0_1, hy0_2, hy0_3⟩ := open_agg4 Try.underlying38 (by kernel_rfl) cells38 (hval 0 38 v0 rfl rfl) h0
  obtain ⟨x0_0, e0_0, rfl, u0_0⟩ := DataW.trod_int Try.underlying3 hy0_0
  obtain ⟨x0_1, e0_1, rfl, u0_1⟩ := DataW.trod_int Try.underlying3 hy0_1
  obtain ⟨x0_2, e0_2, rfl, u0_2⟩ := DataW.trod_int Try.underlying3 hy0_2
  obtain ⟨x0_3, e0_3, rfl, u0_3⟩ := DataW.trod_int Try.underlying3 hy0_3
  simp at e0_0 e0_1 e0_2 e0_3
  subst e0_0 e0_1 e0_2 e0_3
  obtain ⟨a1, rfl, rfl, rfl, w1⟩ := open_int Try.underlying3 (hval 1 3 v1 rfl rfl) h1
  obtain ⟨a2, rfl, rfl, rfl, w2⟩ := open_int Try.underlying3 (hval 2 3 v2 rfl rfl) h2
  clear hA0 hval0
  refine (ringIs_walk x0_0 x0_1 x0_2 x0_3 a1 a2 W (Sx.wf_i64 w2).2).mono fun e W' ⟨he, hg⟩ => ?_
  subst he
  exact ⟨_, rfl, _, _, _, [], _, [], hW', trodAll_mk1 (shut_bool Try.underlying4 _), (trodAll_cons_mk (shut_agg4 (y0 := (.lit (.int .i64 x0_0), [])) (y1 := (.lit (.int .i64 x0_1), [])) (y2 := (.lit (.int .i64 x0_2), [])) (y3 := (.lit (.int .i64 x0_3), [])) Try.underlying38 (by kernel_rfl) cells38 (shut_int Try.underlying3 u0_0) (shut_int Try.underlying3 u0_1) (shut_int Try.underlying3 u0_2) (shut_int Try.underlying3 u0_3)) (trodAll_cons_mk (shut_int Try.underlying3 w1) (trodAll_cons_mk (shut_int Try.underlying3 w2) trodAll_mk0))), rfl, hg.below.frame _, fun h => by cases h⟩

theorem named : Try.pinned.checked.prog.funcNamed Rows.ringIsRow.func = some 7 := by kernel_rfl
set_option maxHeartbeats 4000000 in
theorem closed : joinedFacts Try.pinned.checked.prog 7 Try.f7 Rows.ringIsSpec Rows.ringIsRow = true := by
  unfold joinedFacts
  simp only [Bool.and_eq_true]
  repeat' apply And.intro
  all_goals (as_aux_lemma => kernel_rfl)
theorem inst : Try.f7.isInstance Try.pinned.checked.prog Rows.ringIsRow.origin Rows.ringIsRow.targs := of_decide_eq_true (by kernel_rfl)
theorem wrapper : Try.f7.isWrapper Try.pinned.checked.prog Rows.ringIsRow.wrapper Rows.ringIsRow.mainSum := by
  unfold Func.isWrapper
  rw [if_neg (by decide +kernel)]
  exact ⟨rfl, rfl⟩
theorem over : Rows.ringIsRow.holds Try.pinned (OpenSpec.ofChange Rows.ringIsSpec) :=
  OpenClaim.holds_of_wide 7 Try.f7 rfl rfl rfl rfl rfl rfl rfl ⟨rfl, rfl, rfl, rfl, rfl⟩ rfl rfl rfl rfl rfl named Try.func7 closed inst wrapper
    (fun os started H enc _ => lifted os started H enc)

theorem proved : Rows.RingIsSaid :=
  over
#print axioms proved
end Go.Proofs.Ytdgbgnkfjcbgiaa.ringIs
