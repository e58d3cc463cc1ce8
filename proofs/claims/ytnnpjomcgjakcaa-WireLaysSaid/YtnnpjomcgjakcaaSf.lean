/-
  Frames: what a law's arguments are, as lists.
-/
import Derived.Test.YtnnpjomcgjakcaaSn
import Derived.WalkKit
import Derived.ProofKit
import Derived.OpenShut
import Derived.ShutString
import Derived.ChangeOld
import Derived.ChangeSlices
import Derived.Carry
import Derived.SizedLaws
import Derived.Deep.Matrix
import Derived.Lib.SmallJoins
set_option linter.unusedVariables false
namespace Go.Proofs.Ytnnpjomcgjakcaa.Sx
open Go Go.RowKit Go.ChangeShapes Go.WideShapes Go.ChangeAt

section
variable {H : Type} {enc : TypeId × Value → H} {P : Program} {W : World} {base : Nat} {spare : Nat → Bool} {held : Bool} {t e q : TypeId} {k : IntKind} {a : Option Addr} {len cap : Nat} {d : DataW H} {ps : List MemPlace} {ts : List TypeId} {ds : List (DataW H)} {j : Nat}

theorem ints_of (hu : P.underlying t = some (.slice e)) (he : P.underlying e = some (.int k)) (hc : P.cellsOf e = 1) (h : DataW.Trod enc P W base spare held t (.slice a len cap) d ps) :
    ∃ zs : List Int, View W a (zs.map (Value.int k)) ∧ zs.length = len ∧ len ≤ maxLen ∧ ∀ z ∈ zs, (Lit.int k z).wf = true := by
  obtain ⟨fuel, hf⟩ := h
  rcases open_ints hu he hc hf with ⟨hcs, _⟩ | ⟨x, l, c, zs, hcs, _, hl, hm, hz, hx, hcell, hw⟩
  · simp [Value.cells] at hcs
    obtain ⟨rfl, rfl, rfl⟩ := hcs
    exact ⟨[], View.nil _ _, rfl, Nat.zero_le _, by simp⟩
  · simp [Value.cells] at hcs
    obtain ⟨rfl, rfl, rfl⟩ := hcs
    have hl2 : len ≤ zs.length := by
      rw [hz]
      split
      · exact hl
      · exact Nat.le_refl _
    refine ⟨zs.take len, fun i v hv => ⟨x, rfl, ?_⟩, by simp; omega, Nat.le_trans hl hm, fun z hz => hw z (List.mem_of_mem_take hz)⟩
    rw [List.getElem?_map, List.getElem?_take] at hv
    split at hv
    · rename_i hi
      rw [hcell i (by omega)]
      rw [List.getElem?_eq_getElem (by omega)] at hv
      simp at hv
      rw [← hv]
      simp [show i < zs.length by omega]
    · cases hv
theorem sized_of (hsz : (DataW.weightsEach P ts ds).all (· ≤ reachBytes) = true) (ht : ts[j]? = some t) (hd : ds[j]? = some d) (hu : P.underlying t = some (.slice e)) (he : P.underlying e = some (.int k)) (hc : P.cellsOf e = 1) {B : Nat} (hB : P.bytesOf e = B)
    (h : DataW.Trod enc P W base spare held t (.slice a len cap) d ps) : len * B ≤ 140737488351232 := by
  obtain ⟨fuel, hf⟩ := h
  rcases open_ints hu he hc hf with ⟨hcs, _⟩ | ⟨x, l, c, zs, hcs, _, hl, hm, hz, hx, hcell, hw⟩
  · simp [Value.cells] at hcs
    obtain ⟨rfl, rfl, rfl⟩ := hcs
    simp
  · simp [Value.cells] at hcs
    obtain ⟨rfl, rfl, rfl⟩ := hcs
    obtain ⟨hx, _⟩ := Prod.mk.inj hx
    subst hx
    have z := sized_slice hsz ht hd hu
    rw [hB] at z
    have hl2 : len ≤ zs.length := by
      rw [hz]
      split
      · exact hl
      · exact Nat.le_refl _
    have h1 : (lits (H := H) k (zs.take len)).length + (lits (H := H) k (zs.drop len)).length = zs.length := by
      simp [lits]
      omega
    rw [h1] at z
    exact Nat.le_trans (Nat.mul_le_mul_right _ hl2) z

theorem wf_u8 {z : Int} (h : (Lit.int .u8 z).wf = true) : 0 ≤ z ∧ z ≤ 255 := by
  simp [Lit.wf, IntKind.min, IntKind.max, IntKind.bits, IntKind.signed] at h; omega
theorem wf_u32 {z : Int} (h : (Lit.int .u32 z).wf = true) : 0 ≤ z ∧ z ≤ 4294967295 := by
  simp [Lit.wf, IntKind.min, IntKind.max, IntKind.bits, IntKind.signed] at h; omega
theorem wf_u64 {z : Int} (h : (Lit.int .u64 z).wf = true) : 0 ≤ z ∧ z ≤ 18446744073709551615 := by
  simp [Lit.wf, IntKind.min, IntKind.max, IntKind.bits, IntKind.signed] at h; omega
theorem wf_i64 {z : Int} (h : (Lit.int .i64 z).wf = true) : -9223372036854775808 ≤ z ∧ z ≤ 9223372036854775807 := by
  simp [Lit.wf, IntKind.min, IntKind.max, IntKind.bits, IntKind.signed] at h; omega
theorem wf_nat {z : Int} (h : (Lit.int .u64 z).wf = true) : ∃ v : Nat, v < 2 ^ 64 ∧ z = (v : Int) := ⟨z.toNat, by have := wf_u64 h; omega, by have := wf_u64 h; omega⟩
theorem wf_nat32 {z : Int} (h : (Lit.int .u32 z).wf = true) : ∃ v : Nat, v < 2 ^ 32 ∧ z = (v : Int) := ⟨z.toNat, by have := wf_u32 h; omega, by have := wf_u32 h; omega⟩
theorem u8s_of_ints : ∀ (zs : List Int), (∀ z ∈ zs, (Lit.int .u8 z).wf = true) → ∃ bs : List UInt8, zs.map (Value.int .u8) = bs.map bv
  | [], _ => ⟨[], rfl⟩
  | z :: zs, h => by
    obtain ⟨bs, hb⟩ := u8s_of_ints zs (fun z hz => h z (List.mem_cons_of_mem _ hz))
    have hz := wf_u8 (h z (List.mem_cons_self ..))
    refine ⟨UInt8.ofNat z.toNat :: bs, ?_⟩
    have e : ((UInt8.ofNat z.toNat).toNat : Int) = z := by rw [UInt8.toNat_ofNat']; omega
    rw [List.map_cons, List.map_cons, hb]
    simp only [bv, e]
def u64v (v : Nat) : Value := .int .u64 (v : Int)
theorem u64s_of_ints : ∀ (zs : List Int), (∀ z ∈ zs, (Lit.int .u64 z).wf = true) → ∃ vs : List Nat, zs.map (Value.int .u64) = vs.map u64v ∧ ∀ v ∈ vs, v < 2 ^ 64
  | [], _ => ⟨[], rfl, by simp⟩
  | z :: zs, h => by
    obtain ⟨vs, hb, hw⟩ := u64s_of_ints zs (fun z hz => h z (List.mem_cons_of_mem _ hz))
    obtain ⟨v, hv, rfl⟩ := wf_nat (h z (List.mem_cons_self ..))
    exact ⟨v :: vs, by simp [u64v, hb], by simpa using ⟨hv, hw⟩⟩
theorem u8s_of (hu : P.underlying t = some (.slice e)) (he : P.underlying e = some (.int .u8)) (hc : P.cellsOf e = 1) (h : DataW.Trod enc P W base spare held t (.slice a len cap) d ps) :
    ∃ bs : List UInt8, View W a (bs.map bv) ∧ bs.length = len ∧ len ≤ maxLen := by
  obtain ⟨zs, hV, hl, hm, hw⟩ := ints_of hu he hc h
  obtain ⟨bs, hb⟩ := u8s_of_ints zs hw
  have := congrArg List.length hb
  simp at this
  exact ⟨bs, hb ▸ hV, by omega, hm⟩
theorem u64s_of (hu : P.underlying t = some (.slice e)) (he : P.underlying e = some (.int .u64)) (hc : P.cellsOf e = 1) (h : DataW.Trod enc P W base spare held t (.slice a len cap) d ps) :
    ∃ vs : List Nat, View W a (vs.map u64v) ∧ vs.length = len ∧ len ≤ maxLen ∧ ∀ v ∈ vs, v < 2 ^ 64 := by
  obtain ⟨zs, hV, hl, hm, hw⟩ := ints_of hu he hc h
  obtain ⟨bs, hb, hlt⟩ := u64s_of_ints zs hw
  have := congrArg List.length hb
  simp at this
  exact ⟨bs, hb ▸ hV, by omega, hm, hlt⟩
end
end Go.Proofs.Ytnnpjomcgjakcaa.Sx
