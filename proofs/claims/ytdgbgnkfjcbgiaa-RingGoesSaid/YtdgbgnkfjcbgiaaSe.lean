/-
  '==' and '!=' of arrays and structs of whole numbers.
-/
import Derived.Test.YtdgbgnkfjcbgiaaSd
import Derived.Laws.StructEq
set_option linter.unusedVariables false
set_option linter.unusedSimpArgs false
namespace Go.Proofs.Ytdgbgnkfjcbgiaa.Sx
open Go Go.RowKit

section
variable {P : Program} {Q : Exit → Act → World → Prop} {n : Nat} {l : List (Nat × Value)} {w w0 : World} {ops : Array Oper}
variable {rest : List Oper} {d ty t t' : Nat} {pos : String} {after : Array Edge} {v : Value} {o1 o2 : Operand} {x y : Int} {k k' : IntKind}

theorem run_eq_loop {f : Nat → Sem Bool} {b : Nat → Bool} : ∀ (is : List Nat), (∀ i ∈ is, (f i).run P w = .ok (b i) w) →
    (forIn (m := Sem) is ((none, ()) : Option Bool × Unit) fun i _ => do
      let r ← f i
      if (!r) = true then pure (ForInStep.done (some false, ())) else pure (ForInStep.yield (none, ()))).run P w = .ok (if is.all b then none else some false, ()) w
  | [], _ => by simp
  | i :: is, h => by
    have h0 := h i (List.mem_cons_self ..)
    have ih := run_eq_loop (f := f) (b := b) is (fun j hj => h j (List.mem_cons_of_mem _ hj))
    simp only [List.forIn_cons, Sem.run_bind, h0, Result.andThen_ok]
    cases hb : b i
    · simp [hb]
    · simp only [Bool.not_true, Bool.false_eq_true, if_false, Sem.run_pure, Result.andThen_ok, ih]
      simp [hb]

theorem run_equalIn_arr {m e sz dd : Nat} {xs ys : Array Value} {b : Nat → Bool} (hu : P.underlying t = some (.array m e)) (hs : sizeP P e = some sz)
    (hb : ∀ i, i < m → (do let x ← part e xs (i * sz); let y ← part e ys (i * sz); Op.equalIn dd e x y : Sem Bool).run P w = .ok (b i) w) :
    (Op.equalIn (dd + 1) t (.agg xs) (.agg ys)).run P w = .ok ((List.range m).all b) w := by
  have hl := run_eq_loop (P := P) (w := w) (f := fun i => do let x ← part e xs (i * sz); let y ← part e ys (i * sz); Op.equalIn dd e x y) (b := b) (List.range m) (fun i hi => hb i (List.mem_range.1 hi))
  simp only [Op.equalIn, Sem.run_bind, run_underlying hu, run_sizeOf hs, Result.andThen_ok]
  rw [Std.Legacy.Range.forIn_eq_forIn_range']
  have e1 : List.range' [:m].start [:m].size [:m].step = List.range m := by
    simp [Std.Legacy.Range.size, List.range_eq_range']
  rw [e1]
  have e2 : (fun (i : Nat) (__s : Option Bool × Unit) => (do
            let __do_lift ← part e xs (i * sz)
            let __do_lift_1 ← part e ys (i * sz)
            let __do_lift ← Op.equalIn dd e __do_lift __do_lift_1
            if (!__do_lift) = true then pure (ForInStep.done (some false, ())) else pure (ForInStep.yield (none, ())) : Sem (ForInStep (Option Bool × Unit)))) =
      (fun i _ => do
      let r ← (do let x ← part e xs (i * sz); let y ← part e ys (i * sz); Op.equalIn dd e x y)
      if (!r) = true then pure (ForInStep.done (some false, ())) else pure (ForInStep.yield (none, ()))) := by
    funext i s
    simp [bind_assoc]
  rw [e2, hl]
  simp only [Result.andThen_ok]
  cases (List.range m).all b <;> rfl

theorem run_part {cs : Array Value} {o : Nat} {v : Value} (hn : notAgg P t = true) (h : cs[o]? = some v) : (part t cs o).run P w = .ok v w := by
  simp [part, run_isAgg_no hn, h]

/-- Arrays of whole numbers. -/
theorem run_equalIn_ints {m e dd : Nat} {xs ys : List Int} (hu : P.underlying t = some (.array m e)) (he : P.underlying e = some (.int k)) (hn : notAgg P e = true) (hs : sizeP P e = some 1) (hx : xs.length = m) (hy : ys.length = m) :
    (Op.equalIn (dd + 2) t (.agg (xs.map (Value.int k)).toArray) (.agg (ys.map (Value.int k)).toArray)).run P w = .ok (xs == ys) w := by
  have := run_equalIn_arr (P := P) (w := w) (dd := dd + 1) (xs := (xs.map (Value.int k)).toArray) (ys := (ys.map (Value.int k)).toArray) (b := fun i => xs.getD i 0 == ys.getD i 0) hu hs (fun i hi => by
    have h1 : (xs.map (Value.int k)).toArray[i * 1]? = some (.int k (xs.getD i 0)) := by simp [show i < xs.length by omega]
    have h2 : (ys.map (Value.int k)).toArray[i * 1]? = some (.int k (ys.getD i 0)) := by simp [show i < ys.length by omega]
    simp only [Sem.run_bind, run_part hn h1, run_part hn h2, Result.andThen_ok, run_equalIn_int w dd e k k _ _ he])
  rw [this]
  congr 1
  rw [Bool.eq_iff_iff, List.all_eq_true, beq_iff_eq]
  constructor
  · intro h
    apply List.ext_getElem (by omega)
    intro i h1 h2
    have := h i (List.mem_range.2 (by omega))
    simpa [h1, h2] using this
  · rintro rfl i _
    simp

theorem run_eqGuard_agg' {op : BinOp} {xs ys : Array Value} (hm : P.eqGuardType P.depth t = false) {a : Act} (h1 : a.eval o1 = .agg xs) (h2 : a.eval o2 = .agg ys) {b : Bool} (h : (Op.equalIn 10000 t (.agg xs) (.agg ys)).run P w = .ok b w) (hop : op = .eql ∨ op = .neq) :
    (execOp a.eval ⟨some d, .binOp op t o1 o2 t', ty, pos, after, none⟩).run P w = .ok (.value (.bool (if op = .eql then b else !b))) w := by
  simp only [execOp, h1, h2, Sem.run_bind, run_eqGuard_agg w op t o1 o2 xs ys hm, Result.andThen_ok]
  rcases hop with rfl | rfl
  · rw [run_eql_struct, h]; rfl
  · rw [run_neq_struct, h]; rfl
theorem st_eqagg {xs ys : Array Value} {b : Bool} (hm : P.eqGuardType P.depth t = false) (hx : evq l o1 = some (.agg xs)) (hy : evq l o2 = some (.agg ys)) (hb : (Op.equalIn 10000 t (.agg xs) (.agg ys)).run P w = .ok b w) (hd : Nat.blt d n = true)
    (h : HQ (wpList P ops Q rest) n ((d, .bool b) :: l) w) : HQ (wpList P ops Q (⟨some d, .binOp .eql t o1 o2 t', ty, pos, after, none⟩ :: rest)) n l w :=
  hq_op hd (fun ac ha => run_eqGuard_agg' hm (ha.eval hx) (ha.eval hy) hb (.inl rfl)) h
theorem st_neagg {xs ys : Array Value} {b : Bool} (hm : P.eqGuardType P.depth t = false) (hx : evq l o1 = some (.agg xs)) (hy : evq l o2 = some (.agg ys)) (hb : (Op.equalIn 10000 t (.agg xs) (.agg ys)).run P w = .ok b w) (hd : Nat.blt d n = true)
    (h : HQ (wpList P ops Q rest) n ((d, .bool (!b)) :: l) w) : HQ (wpList P ops Q (⟨some d, .binOp .neq t o1 o2 t', ty, pos, after, none⟩ :: rest)) n l w :=
  hq_op hd (fun ac ha => run_eqGuard_agg' hm (ha.eval hx) (ha.eval hy) hb (.inr rfl)) h

/-- Structs of whole numbers, field by field: the fields from number i on stand in the cells from i on. -/
def fieldsChk (P : Program) (k : IntKind) : Nat → List Field → Bool
  | _, [] => true
  | i, f :: fs => f.name != "_" && notAgg P f.type && (match P.underlying f.type with | some (.int k') => decide (k' = k) | _ => false) && f.offset == i && fieldsChk P k (i + 1) fs
theorem run_eqFields {dd : Nat} : ∀ (fs : List Field) (i : Nat) (xs ys : List Int), fieldsChk P k i fs = true → xs.length = i + fs.length → ys.length = i + fs.length →
    (Op.eqFields (dd + 1) (xs.map (Value.int k)).toArray (ys.map (Value.int k)).toArray fs).run P w = .ok (xs.drop i == ys.drop i) w
  | [], i, xs, ys, _, hx, hy => by
    simp at hx hy
    rw [List.drop_of_length_le (by omega), List.drop_of_length_le (by omega)]
    simp [Op.eqFields]
  | f :: fs, i, xs, ys, h, hx, hy => by
    simp only [fieldsChk, Bool.and_eq_true, bne_iff_ne, ne_eq, beq_iff_eq] at h
    obtain ⟨⟨⟨⟨h1, h2⟩, h3⟩, h4⟩, h5⟩ := h
    simp only [List.length_cons] at hx hy
    have ih := run_eqFields (dd := dd) fs (i + 1) xs ys h5 (by omega) (by omega)
    have hk : P.underlying f.type = some (.int k) := by
      cases hu : P.underlying f.type with
      | none => rw [hu] at h3; cases h3
      | some u =>
        rw [hu] at h3
        cases u <;> simp at h3
        rw [h3]
    have e1 : (xs.map (Value.int k)).toArray[f.offset]? = some (.int k (xs[i]'(by omega))) := by rw [h4]; simp [show i < xs.length by omega]
    have e2 : (ys.map (Value.int k)).toArray[f.offset]? = some (.int k (ys[i]'(by omega))) := by rw [h4]; simp [show i < ys.length by omega]
    simp only [Op.eqFields, ne_eq, h1, not_false_eq_true, if_true, Sem.run_bind, run_part h2 e1, run_part h2 e2, Result.andThen_ok, run_equalIn_int w dd f.type k k _ _ hk]
    have d1 : xs.drop i = xs[i]'(by omega) :: xs.drop (i + 1) := List.drop_eq_getElem_cons (by omega)
    have d2 : ys.drop i = ys[i]'(by omega) :: ys.drop (i + 1) := List.drop_eq_getElem_cons (by omega)
    have hb : (xs.drop i == ys.drop i) = ((xs[i]'(by omega) == ys[i]'(by omega)) && (xs.drop (i + 1) == ys.drop (i + 1))) := by rw [d1, d2]; rfl
    rw [hb]
    cases hp : (xs[i]'(by omega) == ys[i]'(by omega))
    · rfl
    · simp only [Bool.not_true, Bool.false_eq_true, if_false, ih, Bool.true_and]
theorem run_equalIn_fields {m dd : Nat} {xs ys : List Int} (hu : P.underlying t = some (.struct (P.fieldsOf t))) (hp : P.stoodInHeld t = false) (hc : fieldsChk P k 0 (P.fieldsOf t).toList = true) (hm : (P.fieldsOf t).toList.length = m) (hx : xs.length = m) (hy : ys.length = m) :
    (Op.equalIn (dd + 2) t (.agg (xs.map (Value.int k)).toArray) (.agg (ys.map (Value.int k)).toArray)).run P w = .ok (xs == ys) w := by
  rw [run_equalIn_struct w (dd + 1) t _ _ hu hp, run_eqFields (dd := dd) _ 0 xs ys hc (by omega) (by omega)]
  rfl
end
end Go.Proofs.Ytdgbgnkfjcbgiaa.Sx
