/-
  Bits of unsigned numbers, told as natural numbers.
-/
import Derived.Test.YtdgbgnkfjcbgiaaSr
set_option linter.unusedVariables false
set_option linter.unusedSimpArgs false
namespace Go.Proofs.Ytdgbgnkfjcbgiaa.Sx
open Go Go.RowKit

def unsB : IntKind → Bool
  | .u8 | .u32 | .u64 => true
  | _ => false
theorem toNat_ofInt_nat {k : Nat} {x : Nat} (h : x < 2 ^ k) : (BitVec.ofInt k (x : Int)).toNat = x := by
  rw [BitVec.toNat_ofInt]
  have : ((x : Int) % ((2 ^ k : Nat) : Int)).toNat = x := by
    rw [Int.emod_eq_of_lt (by omega) (by exact_mod_cast h)]; rfl
  exact this
theorem wrap_nat {k : IntKind} (hk : unsB k = true) {x : Nat} (h : x < 2 ^ k.bits) : k.wrap (x : Int) = (x : Int) := by
  cases k <;> simp [unsB] at hk <;> simp only [IntKind.bits] at h <;> exact wrap_inK (by simp only [inK]; omega)
theorem bitop_xor {k : IntKind} (hk : unsB k = true) {x y : Nat} (hx : x < 2 ^ k.bits) (hy : y < 2 ^ k.bits) : bitop .xor k (x : Int) (y : Int) = ((x ^^^ y : Nat) : Int) := by
  change k.wrap (((BitVec.ofInt k.bits (x : Int) ^^^ BitVec.ofInt k.bits (y : Int) : BitVec k.bits).toNat : Nat) : Int) = _
  rw [BitVec.toNat_xor, toNat_ofInt_nat hx, toNat_ofInt_nat hy, wrap_nat hk (Nat.xor_lt_two_pow hx hy)]
theorem bitop_and {k : IntKind} (hk : unsB k = true) {x y : Nat} (hx : x < 2 ^ k.bits) (hy : y < 2 ^ k.bits) : bitop .and k (x : Int) (y : Int) = ((x &&& y : Nat) : Int) := by
  change k.wrap (((BitVec.ofInt k.bits (x : Int) &&& BitVec.ofInt k.bits (y : Int) : BitVec k.bits).toNat : Nat) : Int) = _
  rw [BitVec.toNat_and, toNat_ofInt_nat hx, toNat_ofInt_nat hy, wrap_nat hk (Nat.lt_of_le_of_lt Nat.and_le_left hx)]
theorem shr_nat (x c b : Nat) (h : c ≤ b) : Int.fdiv (x : Int) (2 ^ (min (Int.toNat (c : Int)) b)) = ((x / 2 ^ c : Nat) : Int) := by
  rw [show min (Int.toNat (c : Int)) b = c from by omega]
  have : ((2 : Int) ^ c) = ((2 ^ c : Nat) : Int) := by simp
  rw [this, Int.fdiv_eq_ediv_of_nonneg _ (Int.natCast_nonneg _)]
  rfl
section
variable {P : Program} {Q : Exit → Act → World → Prop} {n : Nat} {l : List (Nat × Value)} {w w0 : World} {ops : Array Oper}
variable {rest : List Oper} {d ty t t' : Nat} {pos : String} {after : Array Edge} {o1 o2 : Operand} {k k' : IntKind} {x y : Nat}
theorem st_xorN (h : HQ (wpList P ops Q rest) n ((d, .int k ((x ^^^ y : Nat) : Int)) :: l) w) (hx : evq l o1 = some (.int k (x : Int)) := by with_unfolding_all rfl) (hy : evq l o2 = some (.int k (y : Int)) := by with_unfolding_all rfl) (hk : unsB k = true := by with_unfolding_all rfl) (hd : Nat.blt d n = true := by with_unfolding_all rfl)
    (hb : x < 2 ^ k.bits ∧ y < 2 ^ k.bits := by simp only [IntKind.bits]; omega) : HQ (wpList P ops Q (⟨some d, .binOp .xor t o1 o2 t', ty, pos, after, none⟩ :: rest)) n l w :=
  st_xor (by rw [bitop_xor hk hb.1 hb.2]; exact h) hx hy hd
theorem st_andN (h : HQ (wpList P ops Q rest) n ((d, .int k ((x &&& y : Nat) : Int)) :: l) w) (hx : evq l o1 = some (.int k (x : Int)) := by with_unfolding_all rfl) (hy : evq l o2 = some (.int k (y : Int)) := by with_unfolding_all rfl) (hk : unsB k = true := by with_unfolding_all rfl) (hd : Nat.blt d n = true := by with_unfolding_all rfl)
    (hb : x < 2 ^ k.bits ∧ y < 2 ^ k.bits := by simp only [IntKind.bits]; omega) : HQ (wpList P ops Q (⟨some d, .binOp .and t o1 o2 t', ty, pos, after, none⟩ :: rest)) n l w :=
  st_and (by rw [bitop_and hk hb.1 hb.2]; exact h) hx hy hd
theorem st_shrN (h : HQ (wpList P ops Q rest) n ((d, .int k ((x / 2 ^ y : Nat) : Int)) :: l) w) (hx : evq l o1 = some (.int k (x : Int)) := by with_unfolding_all rfl) (hy : evq l o2 = some (.int k' (y : Int)) := by with_unfolding_all rfl) (hd : Nat.blt d n = true := by with_unfolding_all rfl)
    (hb : y ≤ k.bits := by simp only [IntKind.bits]; omega) : HQ (wpList P ops Q (⟨some d, .binOp .shr t o1 o2 t', ty, pos, after, none⟩ :: rest)) n l w :=
  st_shr (by rw [shr_nat x y k.bits hb]; exact h) hx hy hd (by omega)
/-- A number's low byte. -/
theorem st_conv_low {t1 t2 : Nat} {u : TypeDesc} [h1 : Und P t1 u] [h2 : Und P t2 (.int .u8)] (h : HQ (wpList P ops Q rest) n ((d, .int .u8 ((x % 256 : Nat) : Int)) :: l) w) (hx : evq l o1 = some (.int k (x : Int)) := by with_unfolding_all rfl) (hd : Nat.blt d n = true := by with_unfolding_all rfl) :
    HQ (wpList P ops Q (⟨some d, .convert t1 t2 o1, ty, pos, after, none⟩ :: rest)) n l w :=
  st_conv_w (by rw [show IntKind.u8.wrap (x : Int) = ((x % 256 : Nat) : Int) from by rw [IntKind.wrap_u8]; omega]; exact h) hx hd
/-- A store where the place is told by a proof. -/
theorem st_store_at {S : List Nat} {L : List Ent} (M : Mem w0 S L w) {g o : Nat} {arr : List Value} {tb : TypeId} {v : Value} {L' : List Ent} [hs : SzC P t 1] (h : ∀ w', Mem w0 S L' w' → HQ (wpList P ops Q rest) n l w') (hx : evq l o1 = some (.pointer (some ⟨g, o, none⟩)) := by with_unfolding_all rfl) (hy : evq l o2 = some v := by with_unfolding_all rfl)
    (hB : BlkIn L g arr tb := by infer_instance) (hR : Repl L (.blk g arr tb) (.blk g (arr.set o v) tb) L' := by infer_instance) (hv : v.cells = #[v] := by with_unfolding_all rfl) (hu : v.oneCell' = true := by with_unfolding_all rfl) (ho : o < arr.length := by first | omega | (simp; done) | (simp; omega)) :
    HQ (wpList P ops Q (⟨none, .store t o1 o2, ty, pos, after, none⟩ :: rest)) n l w :=
  st_store M h hx hy hB hR hv hu (by simpa [Nat.blt_eq] using ho)
end
section
variable {P : Program} {Q : Exit → Act → World → Prop} {n : Nat} {l : List (Nat × Value)} {w : World} {ops : Array Oper}
variable {rest : List Oper} {d ty t t' : Nat} {pos : String} {after : Array Edge} {o1 o2 : Operand}
theorem st_eqb_same {a : Bool} [hP : Und P t .bool] (h : HQ (wpList P ops Q rest) n ((d, .bool true) :: l) w) (hx : evq l o1 = some (.bool a) := by with_unfolding_all rfl) (hy : evq l o2 = some (.bool a) := by with_unfolding_all rfl) (hd : Nat.blt d n = true := by with_unfolding_all rfl) : HQ (wpList P ops Q (⟨some d, .binOp .eql t o1 o2 t', ty, pos, after, none⟩ :: rest)) n l w :=
  st_eqb (by rw [beq_self_eq_true]; exact h) hx hy hd
end
/-! ### '[]byte("..")' of a constant string -/
theorem freeze_other (w : World) (g k n : Nat) (o : Nat) (h : k ≠ g) : (w.freeze ⟨g, o, none⟩ n).heap[k]? = w.heap[k]? := by
  unfold World.freeze
  split
  · rfl
  · simp [Array.getElem?_modify, Ne.symm h]
theorem freeze_same (w : World) (g o : Nat) (cs : Array Value) (t : TypeId) (h : w.heap[g]? = some (.cells cs t (0, 0))) : (w.freeze ⟨g, o, none⟩ 1).heap[g]? = some (.cells cs t (o, o + 1)) := by
  unfold World.freeze
  simp [Array.getElem?_modify, h]
theorem st_conv_const {P : Program} {Q : Exit → Act → World → Prop} {n : Nat} {l : List (Nat × Value)} {w w0 : World} {S : List Nat} {L L' : List Ent} {ops : Array Oper} {rest : List Oper} {d ty t : Nat} {pos : String} {after : Array Edge} {o1 : Operand}
    (M : Mem w0 S L w) {g m c e sz : Nat} {xs : List Value} [h1 : Und P t (.slice e)] [h2 : Und P e (.int .u8)] (h : ∀ w', Mem w0 S L' w' → View w' (some ⟨g, 0, none⟩) xs → HQ (wpList P ops Q rest) n ((d, .slice (some ⟨g, 0, none⟩) m c) :: l) w')
    (hx : evq l o1 = some (.slice (some ⟨g, 0, none⟩) m c) := by with_unfolding_all rfl) (hB : RowIn L (some ⟨g, 0, none⟩) m c xs e sz := by infer_instance) (hD : Drop L (.row (some ⟨g, 0, none⟩) m c xs e sz) L' := by infer_instance) (hd : Nat.blt d n = true := by with_unfolding_all rfl) :
    HQ (wpList P ops Q (⟨some d, .convert t t o1, ty, pos, after, none⟩ :: rest)) n l w := by
  obtain ⟨g', ys, e1, hl, M1⟩ := (M.front hD.h).toBlk
  injection e1 with e1
  subst e1
  have hg : w.heap[g]? = some (.cells (xs ++ ys).toArray e (0, 0)) := M1.b0
  have hsh : w.shape? g = some (e, (xs ++ ys).length) := by unfold World.shape?; rw [hg]; simp
  have hf := freeze_same w g (xs ++ ys).length _ _ hg
  have hown := M1.own _ (List.mem_cons_self ..) g (by simp [Ent.blocks])
  have hds := M1.dis
  rw [List.flatMap_cons, List.nodup_append] at hds
  have N : Mem w [g] [] (w.freeze ⟨g, (xs ++ ys).length, none⟩ 1) := ⟨by simp [World.freeze], by simp [World.freeze], by simp [World.freeze], by simp [World.freeze], fun k hk hT => freeze_other w g k 1 _ (by simpa using hT), by simp, by simp, by simp⟩
  have M2 := M1.step (R := L') N (List.sublist_cons_self _ _) (by simpa using hown) (fun e he k hk hT => by
    simp at hT
    subst hT
    exact hds.2.2 k (by simp [Ent.blocks]) k (List.mem_flatMap.2 ⟨e, he, hk⟩) rfl)
  refine hq_op hd (v := .slice (some ⟨g, 0, none⟩) m c) (w' := w.freeze ⟨g, (xs ++ ys).length, none⟩ 1) (fun a ha => ?_) (h _ M2 fun i v hv => ⟨_, rfl, ?_⟩)
  · simp [execOp, ha.eval hx, convert, run_underlying h1.h, run_underlying h2.h, markStringish, hsh]
  · rw [addr0, cell_of_row _ g i _ _ _ hf]
    have hi := (List.getElem?_eq_some_iff.1 hv).1
    simp [List.getElem?_append_left hi, hv]
def u32v (v : Nat) : Value := .int .u32 (v : Int)
end Go.Proofs.Ytdgbgnkfjcbgiaa.Sx
