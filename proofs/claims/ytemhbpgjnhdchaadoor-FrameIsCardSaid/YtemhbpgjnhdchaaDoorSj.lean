/-
  Frames: an argument that is a struct of four whole numbers and a slice of bytes.
-/
import Derived.Test.YtemhbpgjnhdchaaDoorSf
set_option linter.unusedVariables false
namespace Go.Proofs.YtemhbpgjnhdchaaDoor.Sx
open Go Go.RowKit Go.ChangeShapes Go.WideShapes Go.ChangeAt Go.Joins

section
variable {H : Type} {enc : TypeId × Value → H} {P : Program} {W : World} {base : Nat} {spare : Nat → Bool} {held : Bool} {t : TypeId} {v : Value} {d : DataW H} {ps : List MemPlace}
theorem piece_of {f0 f1 f2 f3 f4 : Field} {ti ts tb : TypeId} (hu : P.underlying t = some (.struct #[f0, f1, f2, f3, f4])) (hi : P.underlying ti = some (.int .i64)) (hs : P.underlying ts = some (.slice tb)) (hb : P.underlying tb = some (.int .u8))
    (ct : P.cellsOf t = 5) (ci : P.cellsOf ti = 1) (cs : P.cellsOf ts = 1) (cb : P.cellsOf tb = 1) (ht : f0.type = ti ∧ f1.type = ti ∧ f2.type = ti ∧ f3.type = ti ∧ f4.type = ts) (ho : f0.offset = 0 ∧ f1.offset = 1 ∧ f2.offset = 2 ∧ f3.offset = 3 ∧ f4.offset = 4)
    {r : Reach} {b0 : Nat} (hval : Value.okWide P W r b0 t v) (h : DataW.Trod enc P W base spare held t v d ps) :
    ∃ (x0 x1 x2 x3 : Int) (A : Option Addr) (m c : Nat) (bs : List UInt8), v = .agg [.int .i64 x0, .int .i64 x1, .int .i64 x2, .int .i64 x3, .slice A m c].toArray ∧ View W A (bs.map bv) ∧ bs.length = m ∧ m ≤ c := by
  obtain ⟨cs', rfl, hsz⟩ := okWide_struct hu hval
  rw [ct] at hsz
  obtain ⟨cl, rfl⟩ : ∃ cl : List Value, cs' = cl.toArray := ⟨cs'.toList, by simp⟩
  simp only [List.size_toArray] at hsz
  obtain ⟨t0, t1, t2, t3, t4⟩ := ht
  obtain ⟨o0, o1, o2, o3, o4⟩ := ho
  match cl, hsz with
  | [u0, u1, u2, u3, u4], _ =>
    obtain ⟨fuel, hf⟩ := h
    obtain ⟨xs, n, _, _, _, hlen, hx⟩ := DataW.trod_struct hu hf
    match xs, hlen with
    | [y0, y1, y2, y3, y4], _ =>
      have h0 := hx 0 f0 rfl
      have h1 := hx 1 f1 rfl
      have h2 := hx 2 f2 rfl
      have h3 := hx 3 f3 rfl
      have h4 := hx 4 f4 rfl
      rw [t0, o0, ci] at h0
      rw [t1, o1, ci] at h1
      rw [t2, o2, ci] at h2
      rw [t3, o3, ci] at h3
      rw [t4, o4, cs] at h4
      have g0 : DataW.trod enc P W base spare held n ti [u0] = some y0 := h0
      have g1 : DataW.trod enc P W base spare held n ti [u1] = some y1 := h1
      have g2 : DataW.trod enc P W base spare held n ti [u2] = some y2 := h2
      have g3 : DataW.trod enc P W base spare held n ti [u3] = some y3 := h3
      have g4 : DataW.trod enc P W base spare held n ts [u4] = some y4 := h4
      obtain ⟨z0, e0, _⟩ := DataW.trod_int hi g0
      obtain ⟨z1, e1, _⟩ := DataW.trod_int hi g1
      obtain ⟨z2, e2, _⟩ := DataW.trod_int hi g2
      obtain ⟨z3, e3, _⟩ := DataW.trod_int hi g3
      simp at e0 e1 e2 e3
      subst e0 e1 e2 e3
      obtain ⟨A, m, c, e4⟩ := slice_form hs g4
      simp at e4
      subst e4
      obtain ⟨bs, hV, hl, hmc⟩ := u8s_of (d := y4.1) (ps := y4.2) hs hb cb ⟨n, g4⟩
      exact ⟨z0, z1, z2, z3, A, m, c, bs, rfl, hV, hl, hmc⟩
end
end Go.Proofs.YtemhbpgjnhdchaaDoor.Sx
