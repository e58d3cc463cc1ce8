/-
  Numbers and tests: one rule an operation.
-/
import Derived.Test.YtdgbgnkfjcbgiaaSx
set_option linter.unusedVariables false
set_option linter.unusedSimpArgs false
namespace Go.Proofs.Ytdgbgnkfjcbgiaa.Sx
open Go

section
variable {P : Program} {Q : Exit → Act → World → Prop} {n : Nat} {l : List (Nat × Value)} {w : World} {ops : Array Oper}
variable {rest : List Oper} {d ty t t' : Nat} {pos : String} {after : Array Edge} {v : Value} {o1 o2 : Operand} {x y : Int} {k k' : IntKind}

theorem wrap_i64 {n : Int} (h : -9223372036854775808 ≤ n ∧ n ≤ 9223372036854775807) : IntKind.i64.wrap n = n := by rw [IntKind.wrap_i64]; omega

theorem st_add_w  (h : HQ (wpList P ops Q rest) n ((d, .int k (k.wrap (x + y))) :: l) w) (hx : evq l o1 = some (.int k x) := by with_unfolding_all rfl) (hy : evq l o2 = some (.int k y) := by with_unfolding_all rfl) (hd : Nat.blt d n = true := by with_unfolding_all rfl) : HQ (wpList P ops Q (⟨some d, .binOp .add t o1 o2 t', ty, pos, after, none⟩ :: rest)) n l w :=
  hq_op hd (fun a ha => by simp [execOp, ha.eval hx, ha.eval hy, eqGuard, binOp, Op.intArith, pure, bind, Sem.bind, Sem.run]) h
theorem st_sub_w  (h : HQ (wpList P ops Q rest) n ((d, .int k (k.wrap (x - y))) :: l) w) (hx : evq l o1 = some (.int k x) := by with_unfolding_all rfl) (hy : evq l o2 = some (.int k y) := by with_unfolding_all rfl) (hd : Nat.blt d n = true := by with_unfolding_all rfl) : HQ (wpList P ops Q (⟨some d, .binOp .sub t o1 o2 t', ty, pos, after, none⟩ :: rest)) n l w :=
  hq_op hd (fun a ha => by simp [execOp, ha.eval hx, ha.eval hy, eqGuard, binOp, Op.intArith, pure, bind, Sem.bind, Sem.run]) h
theorem st_mul_w  (h : HQ (wpList P ops Q rest) n ((d, .int k (k.wrap (x * y))) :: l) w) (hx : evq l o1 = some (.int k x) := by with_unfolding_all rfl) (hy : evq l o2 = some (.int k y) := by with_unfolding_all rfl) (hd : Nat.blt d n = true := by with_unfolding_all rfl) : HQ (wpList P ops Q (⟨some d, .binOp .mul t o1 o2 t', ty, pos, after, none⟩ :: rest)) n l w :=
  hq_op hd (fun a ha => by simp [execOp, ha.eval hx, ha.eval hy, eqGuard, binOp, Op.intArith, pure, bind, Sem.bind, Sem.run]) h
theorem st_add  (h : HQ (wpList P ops Q rest) n ((d, .int .i64 (x + y)) :: l) w) (hx : evq l o1 = some (.int .i64 x) := by with_unfolding_all rfl) (hy : evq l o2 = some (.int .i64 y) := by with_unfolding_all rfl) (hd : Nat.blt d n = true := by with_unfolding_all rfl) (hb : -9223372036854775808 ≤ x + y ∧ x + y ≤ 9223372036854775807 := by first | omega | decide) : HQ (wpList P ops Q (⟨some d, .binOp .add t o1 o2 t', ty, pos, after, none⟩ :: rest)) n l w :=
  st_add_w (by rw [wrap_i64 hb]; exact h) hx hy hd
theorem st_sub  (h : HQ (wpList P ops Q rest) n ((d, .int .i64 (x - y)) :: l) w) (hx : evq l o1 = some (.int .i64 x) := by with_unfolding_all rfl) (hy : evq l o2 = some (.int .i64 y) := by with_unfolding_all rfl) (hd : Nat.blt d n = true := by with_unfolding_all rfl) (hb : -9223372036854775808 ≤ x - y ∧ x - y ≤ 9223372036854775807 := by first | omega | decide) : HQ (wpList P ops Q (⟨some d, .binOp .sub t o1 o2 t', ty, pos, after, none⟩ :: rest)) n l w :=
  st_sub_w (by rw [wrap_i64 hb]; exact h) hx hy hd
theorem st_mul  (h : HQ (wpList P ops Q rest) n ((d, .int .i64 (x * y)) :: l) w) (hx : evq l o1 = some (.int .i64 x) := by with_unfolding_all rfl) (hy : evq l o2 = some (.int .i64 y) := by with_unfolding_all rfl) (hd : Nat.blt d n = true := by with_unfolding_all rfl) (hb : -9223372036854775808 ≤ x * y ∧ x * y ≤ 9223372036854775807 := by first | omega | decide) : HQ (wpList P ops Q (⟨some d, .binOp .mul t o1 o2 t', ty, pos, after, none⟩ :: rest)) n l w :=
  st_mul_w (by rw [wrap_i64 hb]; exact h) hx hy hd
theorem st_quo_w  (h : HQ (wpList P ops Q rest) n ((d, .int k (k.wrap (x.tdiv y))) :: l) w) (hx : evq l o1 = some (.int k x) := by with_unfolding_all rfl) (hy : evq l o2 = some (.int k y) := by with_unfolding_all rfl) (hd : Nat.blt d n = true := by with_unfolding_all rfl) (h0 : y ≠ 0 := by first | omega | decide) : HQ (wpList P ops Q (⟨some d, .binOp .quo t o1 o2 t', ty, pos, after, none⟩ :: rest)) n l w :=
  hq_op hd (fun a ha => by simp [execOp, ha.eval hx, ha.eval hy, eqGuard, binOp, Op.intDiv, h0, pure, bind, Sem.bind, Sem.run]) h
theorem st_rem_w  (h : HQ (wpList P ops Q rest) n ((d, .int k (x.tmod y)) :: l) w) (hx : evq l o1 = some (.int k x) := by with_unfolding_all rfl) (hy : evq l o2 = some (.int k y) := by with_unfolding_all rfl) (hd : Nat.blt d n = true := by with_unfolding_all rfl) (h0 : y ≠ 0 := by first | omega | decide) : HQ (wpList P ops Q (⟨some d, .binOp .rem t o1 o2 t', ty, pos, after, none⟩ :: rest)) n l w :=
  hq_op hd (fun a ha => by simp [execOp, ha.eval hx, ha.eval hy, eqGuard, binOp, Op.intDiv, h0, pure, bind, Sem.bind, Sem.run]) h
theorem st_quo  (h : HQ (wpList P ops Q rest) n ((d, .int .i64 (x / y)) :: l) w) (hx : evq l o1 = some (.int .i64 x) := by with_unfolding_all rfl) (hy : evq l o2 = some (.int .i64 y) := by with_unfolding_all rfl) (hd : Nat.blt d n = true := by with_unfolding_all rfl) (h0 : 0 ≤ x ∧ 0 < y ∧ x ≤ 9223372036854775807 := by first | omega | decide) : HQ (wpList P ops Q (⟨some d, .binOp .quo t o1 o2 t', ty, pos, after, none⟩ :: rest)) n l w := by
  refine st_quo_w ?_ hx hy hd (by omega)
  rw [Int.tdiv_eq_ediv_of_nonneg h0.1, wrap_i64 ⟨by have := Int.ediv_nonneg h0.1 (Int.le_of_lt h0.2.1); omega, by have := Int.ediv_le_self y h0.1; omega⟩]
  exact h
theorem st_rem  (h : HQ (wpList P ops Q rest) n ((d, .int .i64 (x % y)) :: l) w) (hx : evq l o1 = some (.int .i64 x) := by with_unfolding_all rfl) (hy : evq l o2 = some (.int .i64 y) := by with_unfolding_all rfl) (hd : Nat.blt d n = true := by with_unfolding_all rfl) (h0 : 0 ≤ x ∧ 0 < y := by first | omega | decide) : HQ (wpList P ops Q (⟨some d, .binOp .rem t o1 o2 t', ty, pos, after, none⟩ :: rest)) n l w := by
  refine st_rem_w ?_ hx hy hd (by omega)
  rw [Int.tmod_eq_emod_of_nonneg h0.1]
  exact h
def bitop (op : BinOp) (k : IntKind) (x y : Int) : Int :=
  match op with
  | .and => k.wrap (BitVec.ofInt k.bits x &&& BitVec.ofInt k.bits y).toNat
  | .or => k.wrap (BitVec.ofInt k.bits x ||| BitVec.ofInt k.bits y).toNat
  | _ => k.wrap (BitVec.ofInt k.bits x ^^^ BitVec.ofInt k.bits y).toNat
theorem st_and  (h : HQ (wpList P ops Q rest) n ((d, .int k (bitop .and k x y)) :: l) w) (hx : evq l o1 = some (.int k x) := by with_unfolding_all rfl) (hy : evq l o2 = some (.int k y) := by with_unfolding_all rfl) (hd : Nat.blt d n = true := by with_unfolding_all rfl) : HQ (wpList P ops Q (⟨some d, .binOp .and t o1 o2 t', ty, pos, after, none⟩ :: rest)) n l w :=
  hq_op hd (fun a ha => by simp [execOp, ha.eval hx, ha.eval hy, eqGuard, binOp, Op.intBits, bitop, pure, bind, Sem.bind, Sem.run]) h
theorem st_or  (h : HQ (wpList P ops Q rest) n ((d, .int k (bitop .or k x y)) :: l) w) (hx : evq l o1 = some (.int k x) := by with_unfolding_all rfl) (hy : evq l o2 = some (.int k y) := by with_unfolding_all rfl) (hd : Nat.blt d n = true := by with_unfolding_all rfl) : HQ (wpList P ops Q (⟨some d, .binOp .or t o1 o2 t', ty, pos, after, none⟩ :: rest)) n l w :=
  hq_op hd (fun a ha => by simp [execOp, ha.eval hx, ha.eval hy, eqGuard, binOp, Op.intBits, bitop, pure, bind, Sem.bind, Sem.run]) h
theorem st_xor  (h : HQ (wpList P ops Q rest) n ((d, .int k (bitop .xor k x y)) :: l) w) (hx : evq l o1 = some (.int k x) := by with_unfolding_all rfl) (hy : evq l o2 = some (.int k y) := by with_unfolding_all rfl) (hd : Nat.blt d n = true := by with_unfolding_all rfl) : HQ (wpList P ops Q (⟨some d, .binOp .xor t o1 o2 t', ty, pos, after, none⟩ :: rest)) n l w :=
  hq_op hd (fun a ha => by simp [execOp, ha.eval hx, ha.eval hy, eqGuard, binOp, Op.intBits, bitop, pure, bind, Sem.bind, Sem.run]) h
theorem st_shl  (h : HQ (wpList P ops Q rest) n ((d, .int k (k.wrap (x * 2 ^ (min y.toNat k.bits)))) :: l) w) (hx : evq l o1 = some (.int k x) := by with_unfolding_all rfl) (hy : evq l o2 = some (.int k' y) := by with_unfolding_all rfl) (hd : Nat.blt d n = true := by with_unfolding_all rfl) (h0 : 0 ≤ y := by first | omega | decide) : HQ (wpList P ops Q (⟨some d, .binOp .shl t o1 o2 t', ty, pos, after, none⟩ :: rest)) n l w :=
  hq_op hd (fun a ha => by
    have : ¬ y < 0 := by omega
    simp [execOp, ha.eval hx, ha.eval hy, eqGuard, binOp, Op.shift, this, pure, bind, Sem.bind, Sem.run]) h
theorem st_shr  (h : HQ (wpList P ops Q rest) n ((d, .int k (x.fdiv (2 ^ (min y.toNat k.bits)))) :: l) w) (hx : evq l o1 = some (.int k x) := by with_unfolding_all rfl) (hy : evq l o2 = some (.int k' y) := by with_unfolding_all rfl) (hd : Nat.blt d n = true := by with_unfolding_all rfl) (h0 : 0 ≤ y := by first | omega | decide) : HQ (wpList P ops Q (⟨some d, .binOp .shr t o1 o2 t', ty, pos, after, none⟩ :: rest)) n l w :=
  hq_op hd (fun a ha => by
    have : ¬ y < 0 := by omega
    simp [execOp, ha.eval hx, ha.eval hy, eqGuard, binOp, Op.shift, this, pure, bind, Sem.bind, Sem.run]) h
theorem st_neg  (h : HQ (wpList P ops Q rest) n ((d, .int k (k.wrap (0 - x))) :: l) w) (hx : evq l o1 = some (.int k x) := by with_unfolding_all rfl) (hd : Nat.blt d n = true := by with_unfolding_all rfl) : HQ (wpList P ops Q (⟨some d, .unOp .neg t o1, ty, pos, after, none⟩ :: rest)) n l w :=
  hq_op hd (fun a ha => by simp [execOp, ha.eval hx, Op.unary, Op.intArith, pure, bind, Sem.bind, Sem.run]) h
theorem st_not {b : Bool} (h : HQ (wpList P ops Q rest) n ((d, .bool (!b)) :: l) w) (hx : evq l o1 = some (.bool b) := by with_unfolding_all rfl) (hd : Nat.blt d n = true := by with_unfolding_all rfl) : HQ (wpList P ops Q (⟨some d, .unOp .not t o1, ty, pos, after, none⟩ :: rest)) n l w :=
  hq_op hd (fun a ha => by simp [execOp, ha.eval hx, Op.unary, pure, bind, Sem.bind, Sem.run]) h
theorem st_not_dec {p : Prop} [Decidable p] (h : HQ (wpList P ops Q rest) n ((d, .bool (decide (¬ p))) :: l) w) (hx : evq l o1 = some (.bool (decide p)) := by with_unfolding_all rfl) (hd : Nat.blt d n = true := by with_unfolding_all rfl) : HQ (wpList P ops Q (⟨some d, .unOp .not t o1, ty, pos, after, none⟩ :: rest)) n l w :=
  st_not (by rw [← decide_not]; exact h) hx hd

def cmpop : BinOp → Int → Int → Prop
  | .eql, x, y => x = y
  | .neq, x, y => x ≠ y
  | .lss, x, y => x < y
  | .leq, x, y => x ≤ y
  | .gtr, x, y => y < x
  | .geq, x, y => y ≤ x
  | _, _, _ => False
instance cmpDec : ∀ (op : BinOp) (x y : Int), Decidable (cmpop op x y) := fun op x y => by
  cases op <;> simp only [cmpop] <;> infer_instance
def isCmp : BinOp → Bool
  | .eql | .neq | .lss | .leq | .gtr | .geq => true
  | _ => false
theorem run_cmp {op : BinOp} (hop : isCmp op = true) {a : Act} (hx : a.eval o1 = .int k x) (hy : a.eval o2 = .int k y) :
    (execOp a.eval ⟨some d, .binOp op t o1 o2 t', ty, pos, after, none⟩).run P w = .ok (.value (.bool (decide (cmpop op x y)))) w := by
  cases op <;> simp [isCmp] at hop <;> simp [execOp, hx, hy, eqGuard, binOp, Op.intCmp, cmpop, pure, bind, Sem.bind, Sem.run] <;> first | rfl | (by_cases e : x = y <;> simp [e])
theorem st_cmp {op : BinOp} (h : HQ (wpList P ops Q rest) n ((d, .bool (decide (cmpop op x y))) :: l) w) (hop : isCmp op = true := by with_unfolding_all rfl) (hx : evq l o1 = some (.int k x) := by with_unfolding_all rfl) (hy : evq l o2 = some (.int k y) := by with_unfolding_all rfl) (hd : Nat.blt d n = true := by with_unfolding_all rfl) : HQ (wpList P ops Q (⟨some d, .binOp op t o1 o2 t', ty, pos, after, none⟩ :: rest)) n l w :=
  hq_op hd (fun a ha => run_cmp hop (ha.eval hx) (ha.eval hy)) h
theorem st_cmp_yes {op : BinOp} (h : HQ (wpList P ops Q rest) n ((d, .bool true) :: l) w) (hop : isCmp op = true := by with_unfolding_all rfl) (hx : evq l o1 = some (.int k x) := by with_unfolding_all rfl) (hy : evq l o2 = some (.int k y) := by with_unfolding_all rfl) (hd : Nat.blt d n = true := by with_unfolding_all rfl) (hc : cmpop op x y := by first | (simp only [cmpop] <;> omega) | (simp only [cmpop] <;> decide)) : HQ (wpList P ops Q (⟨some d, .binOp op t o1 o2 t', ty, pos, after, none⟩ :: rest)) n l w :=
  st_cmp (by rw [decide_eq_true hc]; exact h) hop hx hy hd
theorem st_cmp_no {op : BinOp} (h : HQ (wpList P ops Q rest) n ((d, .bool false) :: l) w) (hop : isCmp op = true := by with_unfolding_all rfl) (hx : evq l o1 = some (.int k x) := by with_unfolding_all rfl) (hy : evq l o2 = some (.int k y) := by with_unfolding_all rfl) (hd : Nat.blt d n = true := by with_unfolding_all rfl) (hc : ¬ cmpop op x y := by first | (simp only [cmpop] <;> omega) | (simp only [cmpop] <;> decide)) : HQ (wpList P ops Q (⟨some d, .binOp op t o1 o2 t', ty, pos, after, none⟩ :: rest)) n l w :=
  st_cmp (by rw [decide_eq_false hc]; exact h) hop hx hy hd

theorem run_equalIn_bool {e : Nat} {a b : Bool} (hP : P.underlying t = some .bool) : (Op.equalIn (e + 1) t (.bool a) (.bool b)).run P w = .ok (a == b) w := by
  simp [Op.equalIn, underlying, program, hP, pure, bind, Sem.bind, Sem.run]
theorem run_equalIn_slice_nil {e m c u : Nat} {A : Option Addr} (hP : P.underlying t = some (.slice u)) : (Op.equalIn (e + 1) t (.slice A m c) (.slice none 0 0)).run P w = .ok A.isNone w := by
  cases A <;> simp [Op.equalIn, underlying, program, hP, pure, bind, Sem.bind, Sem.run]
theorem run_equalIn_ptr_nil {e u : Nat} {A : Option Addr} (hP : P.underlying t = some (.pointer u)) : (Op.equalIn (e + 1) t (.pointer A) (.pointer none)).run P w = .ok A.isNone w := by
  cases A <;> simp [Op.equalIn, underlying, program, hP, pure, bind, Sem.bind, Sem.run]
theorem run_bind_ok {α β : Type} {m : Sem α} {f : α → Sem β} {u : α} {w1 : World} (h : m.run P w = .ok u w1) : (m.bind f).run P w = (f u).run P w1 := by
  rw [Sem.run_bind', h]
  rfl
theorem run_eq_value {a : Act} {vx vy : Value} {b : Bool} (h1 : a.eval o1 = vx) (h2 : a.eval o2 = vy) (hg : (eqGuard .eql t o1 o2 vx vy) = pure ())
    (hb : binOp .eql t vx vy = (do pure (.bool (← Op.equal t vx vy)))) (h : (Op.equal t vx vy).run P w = .ok b w) :
    (execOp a.eval ⟨some d, .binOp .eql t o1 o2 t', ty, pos, after, none⟩).run P w = .ok (.value (.bool b)) w := by
  simp only [execOp, h1, h2, hg, hb]
  simp only [Sem.run_bind, h, Sem.run_pure, Result.andThen_ok]
theorem run_ne_value {a : Act} {vx vy : Value} {b : Bool} (h1 : a.eval o1 = vx) (h2 : a.eval o2 = vy) (hg : (eqGuard .neq t o1 o2 vx vy) = pure ())
    (hb : binOp .neq t vx vy = (do pure (.bool (!(← Op.equal t vx vy))))) (h : (Op.equal t vx vy).run P w = .ok b w) :
    (execOp a.eval ⟨some d, .binOp .neq t o1 o2 t', ty, pos, after, none⟩).run P w = .ok (.value (.bool (!b))) w := by
  simp only [execOp, h1, h2, hg, hb]
  simp only [Sem.run_bind, h, Sem.run_pure, Result.andThen_ok]
theorem st_eqb {a b : Bool} [hP : Und P t .bool] (h : HQ (wpList P ops Q rest) n ((d, .bool (a == b)) :: l) w) (hx : evq l o1 = some (.bool a) := by with_unfolding_all rfl) (hy : evq l o2 = some (.bool b) := by with_unfolding_all rfl) (hd : Nat.blt d n = true := by with_unfolding_all rfl) : HQ (wpList P ops Q (⟨some d, .binOp .eql t o1 o2 t', ty, pos, after, none⟩ :: rest)) n l w :=
  hq_op hd (fun ac ha => run_eq_value (ha.eval hx) (ha.eval hy) rfl rfl (run_equalIn_bool (e := 9999) hP.h)) h
theorem st_neb {a b : Bool} [hP : Und P t .bool] (h : HQ (wpList P ops Q rest) n ((d, .bool (!(a == b))) :: l) w) (hx : evq l o1 = some (.bool a) := by with_unfolding_all rfl) (hy : evq l o2 = some (.bool b) := by with_unfolding_all rfl) (hd : Nat.blt d n = true := by with_unfolding_all rfl) : HQ (wpList P ops Q (⟨some d, .binOp .neq t o1 o2 t', ty, pos, after, none⟩ :: rest)) n l w :=
  hq_op hd (fun ac ha => run_ne_value (ha.eval hx) (ha.eval hy) rfl rfl (run_equalIn_bool (e := 9999) hP.h)) h
theorem st_eqs {a b : ByteArray} (h : HQ (wpList P ops Q rest) n ((d, .bool (a.toList == b.toList)) :: l) w) (hx : evq l o1 = some (.string a) := by with_unfolding_all rfl) (hy : evq l o2 = some (.string b) := by with_unfolding_all rfl) (hd : Nat.blt d n = true := by with_unfolding_all rfl) : HQ (wpList P ops Q (⟨some d, .binOp .eql t o1 o2 t', ty, pos, after, none⟩ :: rest)) n l w :=
  hq_op hd (fun ac ha => by simp [execOp, ha.eval hx, ha.eval hy, eqGuard, binOp, Op.stringOp, pure, bind, Sem.bind, Sem.run]) h
theorem st_nes {a b : ByteArray} (h : HQ (wpList P ops Q rest) n ((d, .bool (!(a.toList == b.toList))) :: l) w) (hx : evq l o1 = some (.string a) := by with_unfolding_all rfl) (hy : evq l o2 = some (.string b) := by with_unfolding_all rfl) (hd : Nat.blt d n = true := by with_unfolding_all rfl) : HQ (wpList P ops Q (⟨some d, .binOp .neq t o1 o2 t', ty, pos, after, none⟩ :: rest)) n l w :=
  hq_op hd (fun ac ha => by simp [execOp, ha.eval hx, ha.eval hy, eqGuard, binOp, Op.stringOp, pure, bind, Sem.bind, Sem.run]) h

/-- nil tests. -/
theorem st_eq_slice_nil {A : Option Addr} {m c e : Nat} [hP : Und P t (.slice e)] (h : HQ (wpList P ops Q rest) n ((d, .bool A.isNone) :: l) w) (hx : evq l o1 = some (.slice A m c) := by with_unfolding_all rfl) (hy : evq l o2 = some (.slice none 0 0) := by with_unfolding_all rfl) (hd : Nat.blt d n = true := by with_unfolding_all rfl) : HQ (wpList P ops Q (⟨some d, .binOp .eql t o1 o2 t', ty, pos, after, none⟩ :: rest)) n l w :=
  hq_op hd (fun ac ha => run_eq_value (ha.eval hx) (ha.eval hy) rfl rfl (run_equalIn_slice_nil (e := 9999) hP.h)) h
theorem st_eq_ptr_nil {A : Option Addr} {e : Nat} [hP : Und P t (.pointer e)] (h : HQ (wpList P ops Q rest) n ((d, .bool A.isNone) :: l) w) (hx : evq l o1 = some (.pointer A) := by with_unfolding_all rfl) (hy : evq l o2 = some (.pointer none) := by with_unfolding_all rfl) (hd : Nat.blt d n = true := by with_unfolding_all rfl) : HQ (wpList P ops Q (⟨some d, .binOp .eql t o1 o2 t', ty, pos, after, none⟩ :: rest)) n l w :=
  hq_op hd (fun ac ha => run_eq_value (ha.eval hx) (ha.eval hy) rfl rfl (run_equalIn_ptr_nil (e := 9999) hP.h)) h

theorem st_conv_w {t1 t2 : Nat} {u : TypeDesc} [h1 : Und P t1 u] [h2 : Und P t2 (.int k')] (h : HQ (wpList P ops Q rest) n ((d, .int k' (k'.wrap x)) :: l) w) (hx : evq l o1 = some (.int k x) := by with_unfolding_all rfl) (hd : Nat.blt d n = true := by with_unfolding_all rfl) : HQ (wpList P ops Q (⟨some d, .convert t1 t2 o1, ty, pos, after, none⟩ :: rest)) n l w :=
  hq_op hd (fun a ha => by simp [execOp, ha.eval hx, convert, underlying, program, h1.h, h2.h, Conv.intToInt, pure, bind, Sem.bind, Sem.run]) h

theorem st_len {A : Option Addr} {m c e t1 : Nat} [hP : Und P t1 (.slice e)] (h : HQ (wpList P ops Q rest) n ((d, .int .i64 (m : Int)) :: l) w) (hx : evq l o1 = some (.slice A m c) := by with_unfolding_all rfl) (hd : Nat.blt d n = true := by with_unfolding_all rfl) : HQ (wpList P ops Q (⟨some d, .call { callee := .builtin .len, args := #[o1], argTypes := #[t1] }, ty, pos, after, none⟩ :: rest)) n l w :=
  hq_op hd (fun a ha => by simp [execOp, ha.eval hx, resolve, invoke, builtin, Builtin.len_, goInt, underlying, program, hP.h, pure, bind, Sem.bind, Sem.run]) h
theorem st_min2 {ts : Array TypeId} (h : HQ (wpList P ops Q rest) n ((d, .int .i64 (if y < x then y else x)) :: l) w) (hx : evq l o1 = some (.int .i64 x) := by with_unfolding_all rfl) (hy : evq l o2 = some (.int .i64 y) := by with_unfolding_all rfl) (hd : Nat.blt d n = true := by with_unfolding_all rfl) : HQ (wpList P ops Q (⟨some d, .call { callee := .builtin .min, args := #[o1, o2], argTypes := ts }, ty, pos, after, none⟩ :: rest)) n l w :=
  hq_op hd (fun a ha => by simp [execOp, ha.eval hx, ha.eval hy, resolve, invoke, builtin, Builtin.min_, Builtin.min2, pure, bind, Sem.bind, Sem.run]) h
theorem st_max2 {ts : Array TypeId} (h : HQ (wpList P ops Q rest) n ((d, .int .i64 (if y > x then y else x)) :: l) w) (hx : evq l o1 = some (.int .i64 x) := by with_unfolding_all rfl) (hy : evq l o2 = some (.int .i64 y) := by with_unfolding_all rfl) (hd : Nat.blt d n = true := by with_unfolding_all rfl) : HQ (wpList P ops Q (⟨some d, .call { callee := .builtin .max, args := #[o1, o2], argTypes := ts }, ty, pos, after, none⟩ :: rest)) n l w :=
  hq_op hd (fun a ha => by simp [execOp, ha.eval hx, ha.eval hy, resolve, invoke, builtin, Builtin.max_, Builtin.max2, pure, bind, Sem.bind, Sem.run]) h
theorem st_min3 {o3 : Operand} {z : Int} {ts : Array TypeId} (h : HQ (wpList P ops Q rest) n ((d, .int .i64 (if z < (if y < x then y else x) then z else (if y < x then y else x))) :: l) w) (hx : evq l o1 = some (.int .i64 x) := by with_unfolding_all rfl) (hy : evq l o2 = some (.int .i64 y) := by with_unfolding_all rfl) (hz : evq l o3 = some (.int .i64 z) := by with_unfolding_all rfl) (hd : Nat.blt d n = true := by with_unfolding_all rfl) : HQ (wpList P ops Q (⟨some d, .call { callee := .builtin .min, args := #[o1, o2, o3], argTypes := ts }, ty, pos, after, none⟩ :: rest)) n l w :=
  hq_op hd (fun a ha => by simp [execOp, ha.eval hx, ha.eval hy, ha.eval hz, resolve, invoke, builtin, Builtin.min_, Builtin.min2, pure, bind, Sem.bind, Sem.run]) h
theorem st_extract {vs : Array Value} {i : Nat} (h : HQ (wpList P ops Q rest) n ((d, v) :: l) w) (hx : evq l o1 = some (.tuple vs) := by with_unfolding_all rfl) (hv : vs[i]? = some v := by with_unfolding_all rfl) (hd : Nat.blt d n = true := by with_unfolding_all rfl) : HQ (wpList P ops Q (⟨some d, .extract o1 i, ty, pos, after, none⟩ :: rest)) n l w :=
  hq_op hd (fun a ha => by simp [execOp, ha.eval hx, Instr.extract, hv, pure, bind, Sem.bind, Sem.run]) h
theorem st_nilCheck {p : Addr} (h : HQ (wpList P ops Q rest) n ((d, .pointer (some p)) :: l) w) (hx : evq l o1 = some (.pointer (some p)) := by with_unfolding_all rfl) (hd : Nat.blt d n = true := by with_unfolding_all rfl) : HQ (wpList P ops Q (⟨some d, .nilCheck o1, ty, pos, after, none⟩ :: rest)) n l w :=
  hq_op hd (fun a ha => by simp [execOp, ha.eval hx, pure, bind, Sem.bind, Sem.run]) h

end
end Go.Proofs.Ytdgbgnkfjcbgiaa.Sx
