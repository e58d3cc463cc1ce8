/-
  Frames: what a law's arguments are, as lists.
-/
import Derived.Test.YtdgbgnkfjcbgiaaSr
import Derived.WalkKit
import Derived.ProofKit
import Derived.OpenShut
import Derived.ShutString
import Derived.ChangeOld
import Derived.ChangeSlices
import Derived.Carry
import Derived.SizedLaws
import Derived.Deep.Matrix
import Derived.Deep.SlicePairs
import Derived.Lib.SmallJoins
set_option linter.unusedVariables false
namespace Go.Proofs.Ytdgbgnkfjcbgiaa.Sx
open Go Go.RowKit Go.ChangeShapes Go.WideShapes Go.ChangeAt

section
variable {H : Type} {enc : TypeId × Value → H} {P : Program} {W : World} {base : Nat} {spare : Nat → Bool} {held : Bool} {t e q : TypeId} {k : IntKind} {a : Option Addr} {len cap : Nat} {d : DataW H} {ps : List MemPlace} {ts : List TypeId} {ds : List (DataW H)} {j : Nat}

theorem ints_of (hu : P.underlying t = some (.slice e)) (he : P.underlying e = some (.int k)) (hc : P.cellsOf e = 1) (h : DataW.Trod enc P W base spare held t (.slice a len cap) d ps) :
    ∃ zs : List Int, View W a (zs.map (Value.int k)) ∧ zs.length = len ∧ len ≤ cap ∧ ∀ z ∈ zs, (Lit.int k z).wf = true := by
  obtain ⟨fuel, hf⟩ := h
  rcases open_ints hu he hc hf with ⟨hcs, _⟩ | ⟨x, l, c, zs, hcs, _, hl, hm, hz, hx, hcell, hw⟩
  · simp [Value.cells] at hcs
    obtain ⟨rfl, rfl, rfl⟩ := hcs
    exact ⟨[], View.nil _ _, rfl, Nat.le_refl _, by simp⟩
  · simp [Value.cells] at hcs
    obtain ⟨rfl, rfl, rfl⟩ := hcs
    have hl2 : len ≤ zs.length := by
      rw [hz]
      split
      · exact hl
      · exact Nat.le_refl _
    refine ⟨zs.take len, fun i v hv => ⟨x, rfl, ?_⟩, by simp; omega, hl, fun z hz => hw z (List.mem_of_mem_take hz)⟩
    rw [List.getElem?_map, List.getElem?_take] at hv
    split at hv
    · rename_i hi
      rw [hcell i (by omega)]
      rw [List.getElem?_eq_getElem (by omega)] at hv
      simp at hv
      rw [← hv]
      simp [show i < zs.length by omega]
    · cases hv
theorem sized_of (hsz : (DataW.weightsEach P ts ds).all (· ≤ reachBytes) = true) (ht : ts[j]? = some t) (hd : ds[j]? = some d) (hu : P.underlying t = some (.slice e)) (he : P.underlying e = some (.int k)) (hc : P.cellsOf e = 1) {B : Nat} (hB : P.bytesOf e = B)
    (h : DataW.Trod enc P W base spare held t (.slice a len cap) d ps) : len * B ≤ 140737488351232 := by
  obtain ⟨fuel, hf⟩ := h
  rcases open_ints hu he hc hf with ⟨hcs, _⟩ | ⟨x, l, c, zs, hcs, _, hl, hm, hz, hx, hcell, hw⟩
  · simp [Value.cells] at hcs
    obtain ⟨rfl, rfl, rfl⟩ := hcs
    simp
  · simp [Value.cells] at hcs
    obtain ⟨rfl, rfl, rfl⟩ := hcs
    obtain ⟨hx, _⟩ := Prod.mk.inj hx
    subst hx
    have z := sized_slice hsz ht hd hu
    rw [hB] at z
    have hl2 : len ≤ zs.length := by
      rw [hz]
      split
      · exact hl
      · exact Nat.le_refl _
    have h1 : (lits (H := H) k (zs.take len)).length + (lits (H := H) k (zs.drop len)).length = zs.length := by
      simp [lits]
      omega
    rw [h1] at z
    exact Nat.le_trans (Nat.mul_le_mul_right _ hl2) z

theorem wf_u8 {z : Int} (h : (Lit.int .u8 z).wf = true) : 0 ≤ z ∧ z ≤ 255 := by
  simp [Lit.wf, IntKind.min, IntKind.max, IntKind.bits, IntKind.signed] at h; omega
theorem wf_u32 {z : Int} (h : (Lit.int .u32 z).wf = true) : 0 ≤ z ∧ z ≤ 4294967295 := by
  simp [Lit.wf, IntKind.min, IntKind.max, IntKind.bits, IntKind.signed] at h; omega
theorem wf_u64 {z : Int} (h : (Lit.int .u64 z).wf = true) : 0 ≤ z ∧ z ≤ 18446744073709551615 := by
  simp [Lit.wf, IntKind.min, IntKind.max, IntKind.bits, IntKind.signed] at h; omega
theorem wf_i64 {z : Int} (h : (Lit.int .i64 z).wf = true) : -9223372036854775808 ≤ z ∧ z ≤ 9223372036854775807 := by
  simp [Lit.wf, IntKind.min, IntKind.max, IntKind.bits, IntKind.signed] at h; omega
theorem wf_nat {z : Int} (h : (Lit.int .u64 z).wf = true) : ∃ v : Nat, v < 2 ^ 64 ∧ z = (v : Int) := ⟨z.toNat, by have := wf_u64 h; omega, by have := wf_u64 h; omega⟩
theorem wf_nat32 {z : Int} (h : (Lit.int .u32 z).wf = true) : ∃ v : Nat, v < 2 ^ 32 ∧ z = (v : Int) := ⟨z.toNat, by have := wf_u32 h; omega, by have := wf_u32 h; omega⟩
theorem u8s_of_ints : ∀ (zs : List Int), (∀ z ∈ zs, (Lit.int .u8 z).wf = true) → ∃ bs : List UInt8, zs.map (Value.int .u8) = bs.map bv
  | [], _ => ⟨[], rfl⟩
  | z :: zs, h => by
    obtain ⟨bs, hb⟩ := u8s_of_ints zs (fun z hz => h z (List.mem_cons_of_mem _ hz))
    have hz := wf_u8 (h z (List.mem_cons_self ..))
    refine ⟨UInt8.ofNat z.toNat :: bs, ?_⟩
    have e : ((UInt8.ofNat z.toNat).toNat : Int) = z := by rw [UInt8.toNat_ofNat']; omega
    rw [List.map_cons, List.map_cons, hb]
    simp only [bv, e]
theorem u64s_of_ints : ∀ (zs : List Int), (∀ z ∈ zs, (Lit.int .u64 z).wf = true) → ∃ vs : List Nat, zs.map (Value.int .u64) = vs.map u64v ∧ ∀ v ∈ vs, v < 2 ^ 64
  | [], _ => ⟨[], rfl, by simp⟩
  | z :: zs, h => by
    obtain ⟨vs, hb, hw⟩ := u64s_of_ints zs (fun z hz => h z (List.mem_cons_of_mem _ hz))
    obtain ⟨v, hv, rfl⟩ := wf_nat (h z (List.mem_cons_self ..))
    exact ⟨v :: vs, by simp [u64v, hb], by simpa using ⟨hv, hw⟩⟩
theorem u8s_of (hu : P.underlying t = some (.slice e)) (he : P.underlying e = some (.int .u8)) (hc : P.cellsOf e = 1) (h : DataW.Trod enc P W base spare held t (.slice a len cap) d ps) :
    ∃ bs : List UInt8, View W a (bs.map bv) ∧ bs.length = len ∧ len ≤ cap := by
  obtain ⟨zs, hV, hl, hm, hw⟩ := ints_of hu he hc h
  obtain ⟨bs, hb⟩ := u8s_of_ints zs hw
  have := congrArg List.length hb
  simp at this
  exact ⟨bs, hb ▸ hV, by omega, hm⟩
theorem u64s_of (hu : P.underlying t = some (.slice e)) (he : P.underlying e = some (.int .u64)) (hc : P.cellsOf e = 1) (h : DataW.Trod enc P W base spare held t (.slice a len cap) d ps) :
    ∃ vs : List Nat, View W a (vs.map u64v) ∧ vs.length = len ∧ len ≤ cap ∧ ∀ v ∈ vs, v < 2 ^ 64 := by
  obtain ⟨zs, hV, hl, hm, hw⟩ := ints_of hu he hc h
  obtain ⟨bs, hb, hlt⟩ := u64s_of_ints zs hw
  have := congrArg List.length hb
  simp at this
  exact ⟨bs, hb ▸ hV, by omega, hm, hlt⟩
theorem rows_of (hu : P.underlying t = some (.slice e)) (he : P.underlying e = some (.slice q)) (hq : P.underlying q = some (.int .u8)) (ce : P.cellsOf e = 1) (cq : P.cellsOf q = 1) (h : DataW.Trod enc P W base (fun _ => true) held t (.slice a len cap) d ps) :
    ∃ rs : List Rw, View W a (rs.map Rw.v) ∧ rs.length = len ∧ ∀ r ∈ rs, r.ok W := by
  obtain ⟨fuel, hf⟩ := h
  rcases Go.Deep.open_int_rows hu he hq ce cq hf with ⟨hcs, _⟩ | ⟨x, l, c, A, L, C, Z, hcs, _, hl, hm, _, hx⟩
  · simp [Value.cells] at hcs
    obtain ⟨rfl, rfl, rfl⟩ := hcs
    exact ⟨[], View.nil _ _, rfl, by simp⟩
  · simp [Value.cells] at hcs
    obtain ⟨rfl, rfl, rfl⟩ := hcs
    have each : ∀ r, ∃ bs : List UInt8, r < cap → (Z r).map (Value.int .u8) = bs.map bv := fun r => by
      by_cases hr : r < cap
      · obtain ⟨_, _, _, _, hw, _⟩ := hx r hr
        obtain ⟨bs, hb⟩ := u8s_of_ints (Z r) hw
        exact ⟨bs, fun _ => hb⟩
      · exact ⟨[], fun h => absurd h hr⟩
    refine ⟨(List.range len).map fun r => ⟨A r, L r, C r, ((Classical.choose (each r)).take (L r))⟩, fun i v hv => ⟨x, rfl, ?_⟩, by simp, fun r hr => ?_⟩
    · rw [List.getElem?_map, List.getElem?_map] at hv
      have hi : i < len := by
        rcases Nat.lt_or_ge i len with h | h
        · exact h
        · rw [List.getElem?_eq_none (by simpa using h)] at hv; simp at hv
      simp [hi] at hv
      rw [(hx i (by omega)).1, ← hv]
      rfl
    · obtain ⟨i, hi, rfl⟩ := List.mem_map.1 hr
      have hi' := List.mem_range.1 hi
      obtain ⟨h1, h2, h3, h4, h5, h6, h7⟩ := hx i (by omega)
      have hb := Classical.choose_spec (each i) (by omega)
      have hbl := congrArg List.length hb
      simp only [List.length_map] at hbl
      refine ⟨fun j v hv => ?_, by simp; omega, h2⟩
      dsimp only at hv ⊢
      have hj : j < L i := by
        have := (List.getElem?_eq_some_iff.1 hv).1
        simp at this
        omega
      cases hA : A i with
      | none => have := h6 hA; omega
      | some a' =>
        refine ⟨a', rfl, ?_⟩
        rw [(h7 a' hA).2 j (by omega)]
        rw [List.map_take, ← hb, ← List.map_take] at hv
        rw [← hv]
        simp [hj, show j < (Z i).length by omega]
def intOf : Value → Int
  | .int _ n => n
  | _ => 0
theorem pairs_of {f0 f1 : Field} (hu : P.underlying t = some (.slice e)) (he : P.underlying e = some (.struct #[f0, f1])) (k0 : P.underlying f0.type = some (.int .i64)) (k1 : P.underlying f1.type = some (.int .i64))
    (ce : P.cellsOf e = 2) (o0 : f0.offset = 0) (o1 : f1.offset = 1) (c0 : P.cellsOf f0.type = 1) (c1 : P.cellsOf f1.type = 1) (h : DataW.Trod enc P W base spare held t (.slice a len cap) d ps) :
    ∃ qs : List (Int × Int), View W a (prs2 qs) ∧ qs.length = len := by
  obtain ⟨fuel, hf⟩ := h
  rcases Go.Deep.open_slice_pairs hu he ce o0 o1 c0 c1 hf with ⟨hcs, _⟩ | ⟨x, l, c, m, n, V0, V1, D0, D1, P0, P1, hcs, _, hl, _, hm, _, hx⟩
  · simp [Value.cells] at hcs
    obtain ⟨rfl, rfl, rfl⟩ := hcs
    exact ⟨[], View.nil _ _, rfl⟩
  · simp [Value.cells] at hcs
    obtain ⟨rfl, rfl, rfl⟩ := hcs
    have hlm : len ≤ m := by rw [hm]; split <;> omega
    refine ⟨(List.range len).map fun i => (intOf (V0 i), intOf (V1 i)), fun i v hv => ⟨x, rfl, ?_⟩, by simp⟩
    have hi : i / 2 < len := by
      have := (List.getElem?_eq_some_iff.1 hv).1
      rw [prs2_length] at this
      simp at this
      omega
    obtain ⟨g0, g1, t0, t1⟩ := hx (i / 2) (by omega)
    obtain ⟨n0, e0, _⟩ := DataW.trod_int k0 t0
    obtain ⟨n1, e1, _⟩ := DataW.trod_int k1 t1
    simp at e0 e1
    have hq : ((List.range len).map fun i => (intOf (V0 i), intOf (V1 i)))[i / 2]? = some (intOf (V0 (i / 2)), intOf (V1 (i / 2))) := by simp [hi]
    obtain ⟨p0, p1⟩ := prs2_get _ _ _ hq
    rcases Nat.mod_two_eq_zero_or_one i with hm2 | hm2
    · have ei : i / 2 * 2 = i := by omega
      rw [ei] at p0 g0
      rw [p0] at hv
      injection hv with hv
      rw [g0, ← hv, e0]
      rfl
    · have ei : i / 2 * 2 + 1 = i := by omega
      rw [ei] at p1 g1
      rw [p1] at hv
      injection hv with hv
      rw [g1, ← hv, e1]
      rfl
end
end Go.Proofs.Ytdgbgnkfjcbgiaa.Sx
