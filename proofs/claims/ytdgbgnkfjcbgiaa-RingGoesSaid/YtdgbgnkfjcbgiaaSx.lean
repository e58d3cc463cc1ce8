/-
  A small walk of my own over the model's wp rules: frames as lists of slots ('Has'), one rule an operation.
-/
import Derived.WalkKit
set_option linter.unusedVariables false
set_option linter.unusedSimpArgs false
namespace Go.Proofs.Ytdgbgnkfjcbgiaa.Sx
open Go

/-! ### What is known of the program's tables: laid as instances, so that the rules find it -/
class Und (P : Program) (t : Nat) (d : outParam TypeDesc) : Prop where h : P.underlying t = some d
class Entered (P : Program) (f : Nat) : Prop where h : ∀ args w, (callFunc f args).run P w = .ok (.enter f args) w
class FuncC (P : Program) (f : Nat) (fn : outParam Func) (n : outParam Nat) : Prop where h : P.funcs[f]? = some fn ∧ fn.ntmps = n

/-! ### Frames -/

def lookq : List (Nat × Value) → Nat → Option Value
  | [], _ => none
  | (d, v) :: l, t => bif Nat.beq t d then some v else lookq l t

structure Has (n : Nat) (l : List (Nat × Value)) (a : Act) : Prop where
  size : a.tmps.size = n
  defers : a.defers = []
  at_ : ∀ t v, lookq l t = some v → a.tmps[t]? = some v

def evq (l : List (Nat × Value)) : Operand → Option Value
  | .tmp t => lookq l t
  | .const v => some v
  | .global g => some (.pointer (some ⟨g, 0, none⟩))
  | .func f => some (.func (.func f) #[] #[])

theorem Has.eval {n : Nat} {l : List (Nat × Value)} {a : Act} (h : Has n l a) {x : Operand} {v : Value} (hx : evq l x = some v) : a.eval x = v := by
  cases x with
  | tmp t =>
    have := h.at_ t v hx
    simp [Act.eval, this]
  | const c => simp [evq] at hx; simp [Act.eval, hx]
  | global g => simp [evq] at hx; simp [Act.eval, hx]
  | func f => simp [evq] at hx; simp [Act.eval, hx]

theorem Has.put {n : Nat} {l : List (Nat × Value)} {a : Act} (h : Has n l a) {d : Nat} (hd : Nat.blt d n = true) (v : Value) : Has n ((d, v) :: l) (a.put (some d) v) := by
  have hdn : d < n := by simpa [Nat.blt_eq] using hd
  refine ⟨by simp [Act.put, h.size], by simp [Act.put, h.defers], fun t u hu => ?_⟩
  simp only [lookq] at hu
  by_cases e : t = d
  · subst e
    have : Nat.beq t t = true := by simp
    rw [this] at hu
    simp only [cond_true, Option.some.injEq] at hu
    subst hu
    simp [Act.put, h.size, hdn]
  · have : Nat.beq t d = false := by
      cases hb : Nat.beq t d
      · rfl
      · exact absurd (Nat.eq_of_beq_eq_true hb) e
    rw [this] at hu
    simp only [cond_false] at hu
    have := h.at_ t u hu
    simp only [Act.put]
    rw [Array.getElem?_setIfInBounds_ne (fun h => e h.symm)]
    exact this

def Sub (l' l : List (Nat × Value)) : Prop := ∀ p ∈ l', lookq l p.1 = some p.2
theorem Sub.nil (l : List (Nat × Value)) : Sub [] l := fun _ h => by cases h
theorem Sub.cons {l' l : List (Nat × Value)} {t : Nat} {v : Value} (h : lookq l t = some v) (hs : Sub l' l) : Sub ((t, v) :: l') l := by
  intro p hp
  rcases List.mem_cons.1 hp with rfl | hp
  · exact h
  · exact hs p hp
theorem lookq_mem : ∀ {l : List (Nat × Value)} {t : Nat} {v : Value}, lookq l t = some v → (t, v) ∈ l
  | [], _, _, h => by cases h
  | (d, u) :: l, t, v, h => by
    simp only [lookq] at h
    cases hb : Nat.beq t d
    · rw [hb] at h; exact List.mem_cons_of_mem _ (lookq_mem h)
    · rw [hb] at h
      simp only [cond_true, Option.some.injEq] at h
      rw [Nat.eq_of_beq_eq_true hb, h]
      exact List.mem_cons_self ..
theorem Has.sub {n : Nat} {l l' : List (Nat × Value)} {a : Act} (h : Has n l a) (hs : Sub l' l) : Has n l' a :=
  ⟨h.size, h.defers, fun t v hv => h.at_ t v (hs _ (lookq_mem hv))⟩

def HQ (q : Act → World → Prop) (n : Nat) (l : List (Nat × Value)) (w : World) : Prop := ∀ a, Has n l a → q a w

theorem HQ.sub {q : Act → World → Prop} {n : Nat} {l l' : List (Nat × Value)} {w : World} (hs : Sub l' l) (h : HQ q n l' w) : HQ q n l w := fun a ha => h a (ha.sub hs)

/-! ### Code -/
section
variable {P : Program} {Q : Exit → Act → World → Prop} {K : Act → World → Prop} {n : Nat} {l : List (Nat × Value)} {w : World} {x y c : Code} {ops : Array Oper}

def argl : Nat → List Value → List (Nat × Value)
  | _, [] => []
  | i, v :: vs => (i, v) :: argl (i + 1) vs

theorem lookq_argl : ∀ (vs : List Value) (i t : Nat) (v : Value), lookq (argl i vs) t = some v → i ≤ t ∧ vs[t - i]? = some v
  | [], _, _, _, h => by cases h
  | u :: vs, i, t, v, h => by
    simp only [argl, lookq] at h
    cases hb : Nat.beq t i
    · rw [hb] at h
      have := lookq_argl vs (i + 1) t v h
      have hne : t ≠ i := fun e => by subst e; simp at hb
      refine ⟨by omega, ?_⟩
      rw [show t - i = (t - (i + 1)) + 1 from by omega]
      simpa using this.2
    · rw [hb] at h
      have e := Nat.eq_of_beq_eq_true hb
      subst e
      simpa using h

theorem enter {f : FuncId} {fn : Func} {args : List Value} {R : Ending → World → Prop} [hf : FuncC P f fn n] (h : HQ (c.wp P (bodyPost P fn R)) n (argl 0 args) w) (hb : fn.body = some c := by with_unfolding_all rfl)  (ha : Nat.ble args.length n = true := by with_unfolding_all rfl) : Calls P f args.toArray w R := by
  refine calls_of_wp hf.h.1 hb (h _ ⟨?_, rfl, fun t v hv => ?_⟩)
  · have := Nat.le_of_ble_eq_true ha
    simp [hf.h.2]; omega
  · have := (lookq_argl args 0 t v hv).2
    simp only [Nat.sub_zero] at this
    have hlt : t < args.length := by
      rcases Nat.lt_or_ge t args.length with h | h
      · exact h
      · simp [List.getElem?_eq_none h] at this
    simp [Array.getElem?_append, hlt]
    simpa [List.getElem?_eq_getElem hlt] using this

theorem hq_seq (h : HQ (x.wp P (Exit.then (y.wp P Q) Q)) n l w) : HQ ((Code.seq x y).wp P Q) n l w := fun a ha => wp_seq (h a ha)
theorem hq_block {id : Nat} (h : HQ (c.wp P (Exit.inBlock id Q)) n l w) : HQ ((Code.block id c).wp P Q) n l w := fun a ha => wp_block (h a ha)
theorem hq_skip (h : HQ (Q .normal) n l w) : HQ (Code.skip.wp P Q) n l w := fun a ha => wp_skip (h a ha)
theorem hq_ret (h : HQ (Q .ret) n l w) : HQ (Code.ret.wp P Q) n l w := fun a ha => wp_ret (h a ha)
theorem hq_exit {id : Nat} (h : HQ (Q (.exit id)) n l w) : HQ ((Code.exit id).wp P Q) n l w := fun a ha => wp_exit (h a ha)
theorem hq_region {id : Nat} {os : List Oper} (h : HQ (wpList P os.toArray Q os) n l w) : HQ ((Code.region id os.toArray false).wp P Q) n l w := fun a ha => wp_region_lit (h a ha)
theorem hq_nil (h : HQ (Q .normal) n l w) : HQ (wpList P ops Q []) n l w := fun a ha => h a ha
theorem hq_cond_true {o : Operand} (h : HQ (x.wp P Q) n l w) (hc : evq l o = some (.bool true) := by with_unfolding_all rfl) : HQ ((Code.cond o x y).wp P Q) n l w := fun a ha => wp_cond_true (ha.eval hc) (h a ha)
theorem hq_cond_false {o : Operand} (h : HQ (y.wp P Q) n l w) (hc : evq l o = some (.bool false) := by with_unfolding_all rfl) : HQ ((Code.cond o x y).wp P Q) n l w := fun a ha => wp_cond_false (ha.eval hc) (h a ha)
theorem hq_cond {o : Operand} {t : Bool} (hc : evq l o = some (.bool t)) (ht : t = true → HQ (x.wp P Q) n l w) (hf : t = false → HQ (y.wp P Q) n l w) : HQ ((Code.cond o x y).wp P Q) n l w :=
  fun a ha => wp_cond_split (ha.eval hc) (fun e => ht e a ha) (fun e => hf e a ha)
theorem hq_cond_dec {o : Operand} {p : Prop} [Decidable p] (hc : evq l o = some (.bool (decide p))) (ht : p → HQ (x.wp P Q) n l w) (hf : ¬ p → HQ (y.wp P Q) n l w) : HQ ((Code.cond o x y).wp P Q) n l w :=
  hq_cond hc (fun e => ht (of_decide_eq_true e)) (fun e => hf (of_decide_eq_false e))

theorem hq_then_normal (h : HQ K n l w) : HQ (Exit.then K Q .normal) n l w := h
theorem hq_then_ret (h : HQ (Q .ret) n l w) : HQ (Exit.then K Q .ret) n l w := h
theorem hq_then_exit {id : Nat} (h : HQ (Q (.exit id)) n l w) : HQ (Exit.then K Q (.exit id)) n l w := h
theorem hq_blk_normal {id : Nat} (h : HQ (Q .normal) n l w) : HQ (Exit.inBlock id Q .normal) n l w := h
theorem hq_blk_ret {id : Nat} (h : HQ (Q .ret) n l w) : HQ (Exit.inBlock id Q .ret) n l w := h
theorem hq_blk_exit {id j : Nat} (h : HQ (Q .normal) n l w) (e : Nat.beq j id = true := by with_unfolding_all rfl) : HQ (Exit.inBlock id Q (.exit j)) n l w := by
  have := Nat.eq_of_beq_eq_true e
  subst this
  intro a ha
  simp only [Exit.inBlock, if_true]
  exact h a ha
theorem hq_blk_exit_ne {id j : Nat} (h : HQ (Q (.exit j)) n l w) (e : Nat.beq j id = false := by with_unfolding_all rfl) : HQ (Exit.inBlock id Q (.exit j)) n l w := by
  intro a ha
  have : j ≠ id := fun h => by subst h; simp at e
  simp only [Exit.inBlock, if_neg this]
  exact h a ha

/-- A loop: what stands in the slots at its head is 'mk i', what is known is 'I i w', a measure goes down. -/
theorem hq_loop {ι : Type} (mk : ι → List (Nat × Value)) (I : ι → World → Prop) (μ : ι → World → Nat) (i0 : ι) (h0 : I i0 w)
    (round : ∀ i w, I i w → HQ (c.wp P (Exit.then (fun a' w' => ∃ i', Has n (mk i') a' ∧ I i' w' ∧ μ i' w' < μ i w) Q)) n (mk i) w) (hsub : Sub (mk i0) l := by repeat (first | exact Sub.nil _ | refine Sub.cons rfl ?_)) :
    HQ ((Code.loop c).wp P Q) n l w := by
  intro a ha b k cs
  have key : ∀ m i a w, μ i w = m → I i w → Has n (mk i) a →
      ∃ e a' w', Q e a' w' ∧ Arrives P (lone (b.at a (.code c :: .inLoop c :: k)) cs w) b k cs e a' w' := by
    intro m
    induction m using Nat.strongRecOn with
    | _ m ih =>
      intro i a w hm hI hh
      obtain ⟨e, a₁, w₁, hq, harr⟩ := round i w hI a hh b (.inLoop c :: k) cs
      cases e with
      | normal =>
        obtain ⟨i', hh', hI₁, hlt⟩ := hq
        obtain ⟨e₂, a₂, w₂, hq₂, harr₂⟩ := ih (μ i' w₁) (hm ▸ hlt) i' a₁ w₁ rfl hI₁ hh'
        exact ⟨e₂, a₂, w₂, hq₂, .of_steps (Steps.trans harr (.one step_inLoop)) harr₂⟩
      | exit id => exact ⟨_, a₁, w₁, hq, .pass (x := .inLoop c) rfl (fun _ _ => .inl (by simp)) harr⟩
      | goto l => exact ⟨_, a₁, w₁, hq, .pass (x := .inLoop c) rfl (fun _ _ => .inl (by simp)) harr⟩
      | ret => exact ⟨_, a₁, w₁, hq, .pass (x := .inLoop c) rfl (fun _ _ => .inl (by simp)) harr⟩
      | panic ch => exact ⟨_, a₁, w₁, hq, .pass (x := .inLoop c) rfl (fun _ _ => .inl (by simp)) harr⟩
      | outgrown => exact ⟨_, a₁, w₁, hq, .pass (x := .inLoop c) rfl (fun _ _ => .inl (by simp)) harr⟩
  obtain ⟨e, a', w', hq, harr⟩ := key _ i0 a w rfl h0 (ha.sub hsub)
  exact ⟨e, a', w', hq, .of_steps (.one step_loop) harr⟩

theorem hq_round {ι : Type} {mk : ι → List (Nat × Value)} {I : ι → World → Prop} {μ : ι → World → Nat} {m : Nat} (i' : ι) (hI : I i' w) (hm : μ i' w < m := by first | omega | (dsimp only; omega)) (hsub : Sub (mk i') l := by repeat (first | exact Sub.nil _ | refine Sub.cons rfl ?_)) :
    HQ (fun a' w' => ∃ i', Has n (mk i') a' ∧ I i' w' ∧ μ i' w' < m) n l w := fun a ha => ⟨i', ha.sub hsub, hI, hm⟩

/-- A cut: the ways through x meet again. -/
theorem hq_seq_cut {ι : Type} (mk : ι → List (Nat × Value)) (I : ι → World → Prop) (hx : HQ (x.wp P (Exit.then (fun a w => ∃ i, Has n (mk i) a ∧ I i w) Q)) n l w)
    (hy : ∀ i w, I i w → HQ (y.wp P Q) n (mk i) w) : HQ ((Code.seq x y).wp P Q) n l w :=
  fun a ha => wp_seq (Code.wp_mono (fun e a' w' q => by
    cases e with
    | normal => obtain ⟨i, hh, hI⟩ := q; exact hy i w' hI a' hh
    | _ => exact q) (hx a ha))
theorem hq_meet {ι : Type} {mk : ι → List (Nat × Value)} {I : ι → World → Prop} (i : ι) (hI : I i w) (hsub : Sub (mk i) l := by repeat (first | exact Sub.nil _ | refine Sub.cons rfl ?_)) : HQ (fun a w => ∃ i, Has n (mk i) a ∧ I i w) n l w := fun a ha => ⟨i, ha.sub hsub, hI⟩

/-! ### The end of a function -/
theorem hq_end1 {fn : Func} {R : Ending → World → Prop} {t : Nat} {v : Value} (hR : R (.returned v) w) (hr : fn.results = #[.tmp t] := by with_unfolding_all rfl) (hv : lookq l t = some v := by with_unfolding_all rfl) : HQ (bodyPost P fn R .ret) n l w := by
  intro a ha
  have := ha.at_ t v hv
  exact ⟨ha.defers, v, by rw [results_tmp hr]; simp [this], hR⟩
theorem hq_end2 {fn : Func} {R : Ending → World → Prop} {t u : Nat} {v v' : Value} (hR : R (.returned (.tuple #[v, v'])) w) (hr : fn.results = #[.tmp t, .tmp u] := by with_unfolding_all rfl) (hv : lookq l t = some v := by with_unfolding_all rfl) (hv' : lookq l u = some v' := by with_unfolding_all rfl) :
    HQ (bodyPost P fn R .ret) n l w := by
  intro a ha
  have h1 := ha.at_ t v hv
  have h2 := ha.at_ u v' hv'
  exact ⟨ha.defers, _, by rw [results_tmp2 hr]; simp [h1, h2], hR⟩

/-! ### Operations -/
variable {rest : List Oper} {d ty : Nat} {pos : String} {after : Array Edge} {op : Op} {v : Value} {w' : World}

theorem yielded_has {a : Act} (ha : Has n l a) {j t : Nat} {b : Bool} (hj : (ops[j]?).bind (·.dst) = some t) (hv : lookq l t = some (.bool b)) : yielded ops a.tmps j = some b := by
  have := ha.at_ t _ hv
  simp [yielded, hj, this]

theorem hq_guard_yes {dst : Option Tmp} {j t : Nat} {b : Bool} (h : HQ (wpList P ops Q (⟨dst, op, ty, pos, after, none⟩ :: rest)) n l w) (hj : (ops[j]?).bind (·.dst) = some t := by with_unfolding_all rfl) (hv : lookq l t = some (.bool b) := by with_unfolding_all rfl) : HQ (wpList P ops Q (⟨dst, op, ty, pos, after, some (j, b)⟩ :: rest)) n l w := by
  intro a ha
  have h1 := h a ha
  have hy := yielded_has ha hj hv
  unfold wpList at h1 ⊢
  rw [if_pos (by simp [Region.wanted])] at h1
  rw [if_pos (by simp [Region.wanted, hy])]
  exact h1

theorem hq_guard_no {j t : Nat} {b b' : Bool} (h : HQ (wpList P ops Q rest) n ((d, undef) :: l) w) (hj : (ops[j]?).bind (·.dst) = some t := by with_unfolding_all rfl) (hv : lookq l t = some (.bool b') := by with_unfolding_all rfl) (hb : (b' == b) = false := by with_unfolding_all rfl) (hd : Nat.blt d n = true := by with_unfolding_all rfl) : HQ (wpList P ops Q (⟨some d, op, ty, pos, after, some (j, b)⟩ :: rest)) n l w := by
  intro a ha
  have hy := yielded_has ha hj hv
  unfold wpList
  rw [if_neg (by simp [Region.wanted, hy]; simpa using hb)]
  exact h _ (ha.put hd _)

/-- A guard that was itself left out. -/
theorem hq_guard_un {j t : Nat} {b : Bool} (h : HQ (wpList P ops Q rest) n ((d, undef) :: l) w) (hj : (ops[j]?).bind (·.dst) = some t := by with_unfolding_all rfl) (hv : lookq l t = some undef := by with_unfolding_all rfl) (hd : Nat.blt d n = true := by with_unfolding_all rfl) : HQ (wpList P ops Q (⟨some d, op, ty, pos, after, some (j, b)⟩ :: rest)) n l w := by
  intro a ha
  have h2 := ha.at_ t _ hv
  have hy : yielded ops a.tmps j = none := by simp [yielded, hj, h2, undef]
  unfold wpList
  rw [if_neg (by simp [Region.wanted, hy])]
  exact h _ (ha.put hd _)

theorem hq_op (hd : Nat.blt d n = true) (hrun : ∀ a, Has n l a → (execOp a.eval ⟨some d, op, ty, pos, after, none⟩).run P w = .ok (.value v) w')
    (h : HQ (wpList P ops Q rest) n ((d, v) :: l) w') : HQ (wpList P ops Q (⟨some d, op, ty, pos, after, none⟩ :: rest)) n l w := by
  intro a ha
  unfold wpList
  rw [if_pos (by simp [Region.wanted])]
  refine .inl ?_
  unfold Oper.wp
  rw [hrun a ha]
  exact h _ (ha.put hd _)

theorem hq_op0 (hrun : ∀ a, Has n l a → (execOp a.eval ⟨none, op, ty, pos, after, none⟩).run P w = .ok .skip w')
    (h : HQ (wpList P ops Q rest) n l w') : HQ (wpList P ops Q (⟨none, op, ty, pos, after, none⟩ :: rest)) n l w := by
  intro a ha
  unfold wpList
  rw [if_pos (by simp [Region.wanted])]
  refine .inl ?_
  unfold Oper.wp
  rw [hrun a ha]
  exact h _ ha

theorem st_move {x : Operand} (h : HQ (wpList P ops Q rest) n ((d, v) :: l) w) (hx : evq l x = some v := by with_unfolding_all rfl) (hd : Nat.blt d n = true := by with_unfolding_all rfl) : HQ (wpList P ops Q (⟨some d, .move x, ty, pos, after, none⟩ :: rest)) n l w :=
  hq_op hd (fun a ha => by simp [execOp, ha.eval hx, pure, Sem.run]) h
theorem st_assign {x : Operand} (h : HQ (wpList P ops Q rest) n ((d, v) :: l) w) (hx : evq l x = some v := by with_unfolding_all rfl) (hd : Nat.blt d n = true := by with_unfolding_all rfl) : HQ (wpList P ops Q (⟨some d, .assign x, ty, pos, after, none⟩ :: rest)) n l w :=
  hq_op hd (fun a ha => by simp [execOp, ha.eval hx, pure, Sem.run]) h
theorem st_pick {c x y : Operand} {b : Bool} (h : HQ (wpList P ops Q rest) n ((d, v) :: l) w) (hc : evq l c = some (.bool b) := by with_unfolding_all rfl) (hx : evq l (bif b then x else y) = some v := by with_unfolding_all rfl) (hd : Nat.blt d n = true := by with_unfolding_all rfl) : HQ (wpList P ops Q (⟨some d, .pick c x y, ty, pos, after, none⟩ :: rest)) n l w :=
  hq_op hd (fun a ha => by
    cases b
    · simp [execOp, ha.eval hx, ha.eval hc, asBool, pure, bind, Sem.bind, Sem.run]
      exact ha.eval hx
    · simp [execOp, ha.eval hx, ha.eval hc, asBool, pure, bind, Sem.bind, Sem.run]
      exact ha.eval hx) h

end
end Go.Proofs.Ytdgbgnkfjcbgiaa.Sx
