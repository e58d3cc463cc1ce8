/-
  Frames: an argument that is an array of three pairs.
-/
import Derived.Test.YtajafjnegbmdbaaSf
set_option linter.unusedVariables false
namespace Go.Proofs.Ytajafjnegbmdbaa.Sx
open Go Go.RowKit Go.ChangeShapes Go.WideShapes Go.ChangeAt Go.Joins

section
variable {H : Type} {enc : TypeId × Value → H} {P : Program} {W : World} {base : Nat} {spare : Nat → Bool} {held : Bool} {t e : TypeId} {v : Value} {d : DataW H} {ps : List MemPlace}
theorem pair_of {f0 f1 : Field} (he : P.underlying e = some (.struct #[f0, f1])) (k0 : P.underlying f0.type = some (.int .i64)) (k1 : P.underlying f1.type = some (.int .i64))
    (o0 : f0.offset = 0) (o1 : f1.offset = 1) (c0 : P.cellsOf f0.type = 1) (c1 : P.cellsOf f1.type = 1) {m : Nat} {a b : Value} {y : DataW H × List MemPlace} (h : DataW.trod enc P W base spare held m e [a, b] = some y) :
    ∃ p : Int × Int, a = iv2 p.1 ∧ b = iv2 p.2 ∧ (-9223372036854775808 ≤ p.1 ∧ p.1 ≤ 9223372036854775807) ∧ (-9223372036854775808 ≤ p.2 ∧ p.2 ≤ 9223372036854775807) := by
  obtain ⟨y0, y1, n, _, _, h0, h1⟩ := trod_struct2 he h
  rw [o0, c0] at h0
  rw [o1, c1] at h1
  obtain ⟨z0, e0, _, w0⟩ := DataW.trod_int k0 h0
  obtain ⟨z1, e1, _, w1⟩ := DataW.trod_int k1 h1
  simp at e0 e1
  exact ⟨(z0, z1), e0, e1, wf_i64 w0, wf_i64 w1⟩
theorem cells_of {f0 f1 : Field} (hu : P.underlying t = some (.array 3 e)) (he : P.underlying e = some (.struct #[f0, f1])) (k0 : P.underlying f0.type = some (.int .i64)) (k1 : P.underlying f1.type = some (.int .i64))
    (ct : P.cellsOf t = 6) (ce : P.cellsOf e = 2) (o0 : f0.offset = 0) (o1 : f1.offset = 1) (c0 : P.cellsOf f0.type = 1) (c1 : P.cellsOf f1.type = 1) {r : Reach} {b0 : Nat} (hval : Value.okWide P W r b0 t v) (h : DataW.Trod enc P W base spare held t v d ps) :
    ∃ l : List (Int × Int), v = .agg (prs2 l).toArray ∧ l.length = 3 ∧ ∀ p ∈ l, (-9223372036854775808 ≤ p.1 ∧ p.1 ≤ 9223372036854775807) ∧ (-9223372036854775808 ≤ p.2 ∧ p.2 ≤ 9223372036854775807) := by
  have hs : ∃ cs : Array Value, v = .agg cs ∧ cs.size = P.cellsOf t := by
    simp only [Value.okWide, hu] at hval
    obtain ⟨cs, h1, h2, _⟩ := hval
    exact ⟨cs, h1, h2⟩
  obtain ⟨cs, rfl, hsz⟩ := hs
  rw [ct] at hsz
  obtain ⟨cl, rfl⟩ : ∃ cl : List Value, cs = cl.toArray := ⟨cs.toList, by simp⟩
  simp only [List.size_toArray] at hsz
  match cl, hsz with
  | [u0, u1, u2, u3, u4, u5], _ =>
    obtain ⟨fuel, hf⟩ := h
    cases fuel with
    | zero => simp [DataW.trod] at hf
    | succ m =>
      rw [DataW.trod_step] at hf
      unfold DataW.trodStep at hf
      simp only [hu, Value.cells] at hf
      rw [if_pos (by rw [ct]; rfl)] at hf
      simp only [Option.map_eq_some_iff] at hf
      obtain ⟨ys, hy, _⟩ := hf
      rw [ce, show List.range 3 = [0, 1, 2] from rfl] at hy
      simp only [List.mapM_cons, List.mapM_nil, bind, Option.bind_eq_some_iff] at hy
      obtain ⟨y0, h0, ys1, ⟨y1, h1, ys2, ⟨y2, h2, _⟩, _⟩, _⟩ := hy
      obtain ⟨p0, a0, b0, r0⟩ := pair_of he k0 k1 o0 o1 c0 c1 (a := u0) (b := u1) h0
      obtain ⟨p1, a1, b1, r1⟩ := pair_of he k0 k1 o0 o1 c0 c1 (a := u2) (b := u3) h1
      obtain ⟨p2, a2, b2, r2⟩ := pair_of he k0 k1 o0 o1 c0 c1 (a := u4) (b := u5) h2
      subst a0 b0 a1 b1 a2 b2
      refine ⟨[p0, p1, p2], rfl, rfl, fun p hp => ?_⟩
      simp at hp
      rcases hp with rfl | rfl | rfl
      · exact r0
      · exact r1
      · exact r2
end
end Go.Proofs.Ytajafjnegbmdbaa.Sx
