/-
  Masks, small things on numbers.
-/
import Derived.Test.YtdgbgnkfjcbgiaaSe
set_option linter.unusedVariables false
namespace Go.Proofs.Ytdgbgnkfjcbgiaa.Sx
open Go Go.RowKit

theorem bitop_mask (x : Int) (k : Nat) (hk : k ≤ 62) : bitop .and .i64 x (2 ^ k - 1) = x % 2 ^ k := by
  have h2 : (2 : Nat) ^ k ≤ 2 ^ 62 := Nat.pow_le_pow_right (by omega) hk
  have h0 : 0 < (2 : Nat) ^ k := Nat.two_pow_pos k
  have hc : ((2 : Int) ^ k) = (((2 : Nat) ^ k : Nat) : Int) := by simp
  have e62 : (2 : Nat) ^ 62 = 4611686018427387904 := by decide
  have hm : (BitVec.ofInt 64 ((2 : Int) ^ k - 1)).toNat = 2 ^ k - 1 := by
    rw [BitVec.toNat_ofInt, hc]
    omega
  change IntKind.i64.wrap (((BitVec.ofInt 64 x &&& BitVec.ofInt 64 (2 ^ k - 1) : BitVec 64).toNat : Nat) : Int) = _
  rw [BitVec.toNat_and, hm, Nat.and_two_pow_sub_one_eq_mod, BitVec.toNat_ofInt]
  have hlt : (x % ((2 ^ 64 : Nat) : Int)).toNat % 2 ^ k < 2 ^ k := Nat.mod_lt _ h0
  rw [wrap_i64 (by omega)]
  have hd : ((2 : Int) ^ k) ∣ ((2 ^ 64 : Nat) : Int) := by
    rw [hc]
    exact Int.natCast_dvd_natCast.2 (Nat.pow_dvd_pow 2 (by omega))
  have h64 : 0 ≤ x % ((2 ^ 64 : Nat) : Int) := Int.emod_nonneg _ (by decide)
  rw [Int.natCast_emod, Int.toNat_of_nonneg h64, ← hc, Int.emod_emod_of_dvd _ hd]

section
variable {P : Program} {Q : Exit → Act → World → Prop} {n : Nat} {l : List (Nat × Value)} {w : World} {ops : Array Oper}
variable {rest : List Oper} {d ty t t' : Nat} {pos : String} {after : Array Edge} {o1 o2 : Operand} {x y : Int}
class MaskC (y : Int) (c : outParam Int) : Prop where h : ∃ k, y = c - 1 ∧ c = 2 ^ k ∧ k ≤ 62
instance : MaskC 1 2 := ⟨1, by decide⟩
instance : MaskC 3 4 := ⟨2, by decide⟩
instance : MaskC 7 8 := ⟨3, by decide⟩
instance : MaskC 15 16 := ⟨4, by decide⟩
instance : MaskC 31 32 := ⟨5, by decide⟩
instance : MaskC 63 64 := ⟨6, by decide⟩
instance : MaskC 255 256 := ⟨8, by decide⟩
instance : MaskC 511 512 := ⟨9, by decide⟩
instance : MaskC 1023 1024 := ⟨10, by decide⟩
instance : MaskC 4095 4096 := ⟨12, by decide⟩
instance : MaskC 65535 65536 := ⟨16, by decide⟩
instance : MaskC 1048575 1048576 := ⟨20, by decide⟩
instance : MaskC 16777215 16777216 := ⟨24, by decide⟩
instance : MaskC 4294967295 4294967296 := ⟨32, by decide⟩
instance : MaskC 1099511627775 1099511627776 := ⟨40, by decide⟩
instance : MaskC 2199023255551 2199023255552 := ⟨41, by decide⟩
theorem st_mask {c : Int} (h : HQ (wpList P ops Q rest) n ((d, .int .i64 (x % c)) :: l) w) (hx : evq l o1 = some (.int .i64 x) := by with_unfolding_all rfl) (hy : evq l o2 = some (.int .i64 y) := by with_unfolding_all rfl) (hk : MaskC y c := by infer_instance) (hd : Nat.blt d n = true := by with_unfolding_all rfl) :
    HQ (wpList P ops Q (⟨some d, .binOp .and t o1 o2 t', ty, pos, after, none⟩ :: rest)) n l w := by
  obtain ⟨k, rfl, rfl, hk'⟩ := hk.h
  refine st_and ?_ hx hy hd
  rw [bitop_mask x k hk']
  exact h
end
theorem Mem.only2 {w0 w : World} {S : List Nat} {e1 e2 : Ent} {L : List Ent} (M : Mem w0 S (e1 :: e2 :: L) w) : Mem w0 S [e1, e2] w :=
  ⟨M.os, M.tape, M.output, M.size, M.old, fun e he => M.ok e (by simp at he ⊢; rcases he with h | h <;> simp [h]), fun e he => M.own e (by simp at he ⊢; rcases he with h | h <;> simp [h]), by
    have := M.dis
    simp only [List.flatMap_cons] at this ⊢
    rw [← List.append_assoc, List.nodup_append] at this
    simpa using this.1⟩
theorem Mem.nilRow {w0 w : World} {S : List Nat} {L : List Ent} (M : Mem w0 S L w) (ty : TypeId) (sz : Nat) : Mem w0 S (.row none 0 0 [] ty sz :: L) w :=
  ⟨M.os, M.tape, M.output, M.size, M.old, fun e he => by
      rcases List.mem_cons.1 he with rfl | he
      · exact ⟨by simp, .inl ⟨rfl, rfl⟩⟩
      · exact M.ok e he, fun e he k hk => by
      rcases List.mem_cons.1 he with rfl | he
      · simp [Ent.blocks] at hk
      · exact M.own e he k hk, by simpa [Ent.blocks, List.flatMap_cons] using M.dis⟩
theorem bv_oneCell (bs : List UInt8) : ∀ u ∈ bs.map bv, u.oneCell' = true := by
  intro u hu
  obtain ⟨b, _, rfl⟩ := List.mem_map.1 hu
  rfl

end Go.Proofs.Ytdgbgnkfjcbgiaa.Sx
