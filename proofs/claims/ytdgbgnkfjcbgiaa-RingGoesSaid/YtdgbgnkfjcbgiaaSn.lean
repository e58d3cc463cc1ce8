/-
  Bytes, conversions, slices by what the frame owns: rules that find what they need.
-/
import Derived.Test.YtdgbgnkfjcbgiaaSm
set_option linter.unusedVariables false
set_option linter.unusedSimpArgs false
namespace Go.Proofs.Ytdgbgnkfjcbgiaa.Sx
open Go Go.RowKit

def inK : IntKind → Int → Prop
  | .i64, x => -9223372036854775808 ≤ x ∧ x ≤ 9223372036854775807
  | .u64, x => 0 ≤ x ∧ x ≤ 18446744073709551615
  | .u32, x => 0 ≤ x ∧ x ≤ 4294967295
  | .u8, x => 0 ≤ x ∧ x ≤ 255
  | _, _ => False
theorem wrap_inK : ∀ {k : IntKind} {x : Int}, inK k x → k.wrap x = x := by
  intro k x h
  cases k <;> simp only [inK] at h <;> simp [IntKind.wrap, IntKind.bits, IntKind.signed] <;> omega

section
variable {P : Program} {Q : Exit → Act → World → Prop} {n : Nat} {l : List (Nat × Value)} {w w0 : World} {S : List Nat} {L : List Ent} {ops : Array Oper}
variable {rest : List Oper} {d ty t t' : Nat} {pos : String} {after : Array Edge} {v : Value} {o1 o2 : Operand} {x y : Int} {k k' : IntKind}

/-! ### Numbers of any kind -/
theorem st_add_k (h : HQ (wpList P ops Q rest) n ((d, .int k (x + y)) :: l) w) (hx : evq l o1 = some (.int k x) := by with_unfolding_all rfl) (hy : evq l o2 = some (.int k y) := by with_unfolding_all rfl) (hd : Nat.blt d n = true := by with_unfolding_all rfl) (hb : inK k (x + y) := by simp only [inK]; omega) : HQ (wpList P ops Q (⟨some d, .binOp .add t o1 o2 t', ty, pos, after, none⟩ :: rest)) n l w :=
  st_add_w (by rw [wrap_inK hb]; exact h) hx hy hd
theorem st_mul_k (h : HQ (wpList P ops Q rest) n ((d, .int k (x * y)) :: l) w) (hx : evq l o1 = some (.int k x) := by with_unfolding_all rfl) (hy : evq l o2 = some (.int k y) := by with_unfolding_all rfl) (hd : Nat.blt d n = true := by with_unfolding_all rfl) (hb : inK k (x * y) := by simp only [inK]; omega) : HQ (wpList P ops Q (⟨some d, .binOp .mul t o1 o2 t', ty, pos, after, none⟩ :: rest)) n l w :=
  st_mul_w (by rw [wrap_inK hb]; exact h) hx hy hd
theorem st_rem_k (h : HQ (wpList P ops Q rest) n ((d, .int k (x % y)) :: l) w) (hx : evq l o1 = some (.int k x) := by with_unfolding_all rfl) (hy : evq l o2 = some (.int k y) := by with_unfolding_all rfl) (hd : Nat.blt d n = true := by with_unfolding_all rfl) (h0 : 0 ≤ x ∧ 0 < y := by first | omega | decide) : HQ (wpList P ops Q (⟨some d, .binOp .rem t o1 o2 t', ty, pos, after, none⟩ :: rest)) n l w := by
  refine st_rem_w ?_ hx hy hd (by omega)
  rw [Int.tmod_eq_emod_of_nonneg h0.1]
  exact h
theorem st_quo_k (h : HQ (wpList P ops Q rest) n ((d, .int k (x / y)) :: l) w) (hx : evq l o1 = some (.int k x) := by with_unfolding_all rfl) (hy : evq l o2 = some (.int k y) := by with_unfolding_all rfl) (hd : Nat.blt d n = true := by with_unfolding_all rfl) (h0 : 0 ≤ x ∧ 0 < y := by first | omega | decide) (hb : inK k x := by simp only [inK]; omega) : HQ (wpList P ops Q (⟨some d, .binOp .quo t o1 o2 t', ty, pos, after, none⟩ :: rest)) n l w := by
  refine st_quo_w ?_ hx hy hd (by omega)
  have h1 := Int.ediv_nonneg h0.1 (Int.le_of_lt h0.2)
  have h2 := Int.ediv_le_self y h0.1
  have h3 : inK k (x / y) := by cases k <;> simp only [inK] at hb ⊢ <;> omega
  rw [Int.tdiv_eq_ediv_of_nonneg h0.1, wrap_inK h3]
  exact h
theorem st_neg_k (h : HQ (wpList P ops Q rest) n ((d, .int k (- x)) :: l) w) (hx : evq l o1 = some (.int k x) := by with_unfolding_all rfl) (hd : Nat.blt d n = true := by with_unfolding_all rfl) (hb : inK k (- x) := by simp only [inK]; omega) : HQ (wpList P ops Q (⟨some d, .unOp .neg t o1, ty, pos, after, none⟩ :: rest)) n l w :=
  st_neg (by rw [show 0 - x = - x from by omega, wrap_inK hb]; exact h) hx hd
theorem st_conv {t1 t2 : Nat} {u : TypeDesc} [h1 : Und P t1 u] [h2 : Und P t2 (.int k')] (h : HQ (wpList P ops Q rest) n ((d, .int k' x) :: l) w) (hx : evq l o1 = some (.int k x) := by with_unfolding_all rfl) (hd : Nat.blt d n = true := by with_unfolding_all rfl) (hb : inK k' x := by simp only [inK]; omega) : HQ (wpList P ops Q (⟨some d, .convert t1 t2 o1, ty, pos, after, none⟩ :: rest)) n l w :=
  st_conv_w (by rw [wrap_inK hb]; exact h) hx hd

/-! ### Indexes into what is owned, into what came in -/
theorem row_some {A : Option Addr} {m c sz : Nat} {xs : List Value} {tb : Nat} (h : (Ent.row A m c xs tb sz).ok w) (hm : 0 < m) : A.isSome = true := by
  rcases h.2 with ⟨_, h2⟩ | ⟨g, c, cur, hv', _⟩
  · omega
  · injection hv' with h1; subst h1; rfl
/-- An index that is told as a Nat: elements of one cell. -/
theorem st_idx_row (M : Mem w0 S L w) {A : Option Addr} {m c e tb sz : Nat} {xs : List Value} [hu : Und P t (.slice e)] [hs : SzC P e 1] (h : HQ (wpList P ops Q rest) n ((d, .pointer (A.map (·.add x.toNat))) :: l) w) (hx : evq l o1 = some (.slice A m c) := by with_unfolding_all rfl) (hB : RowIn L A m c xs tb sz := by infer_instance) (hy : evq l o2 = some (.int k x) := by with_unfolding_all rfl) (hb : 0 ≤ x ∧ x < m := by first | omega | decide) (hd : Nat.blt d n = true := by with_unfolding_all rfl) :
    HQ (wpList P ops Q (⟨some d, .indexAddr t o1 o2, ty, pos, after, none⟩ :: rest)) n l w :=
  st_at x.toNat (row_some (M.ok _ hB.h) (by omega)) h hx hy ⟨hb.1, hb.2, by omega⟩ hd
theorem st_idx_view {A : Option Addr} {m c e : Nat} {w1 : World} {xs : List Value} [hu : Und P t (.slice e)] [hs : SzC P e 1] (h : HQ (wpList P ops Q rest) n ((d, .pointer (A.map (·.add x.toNat))) :: l) w) (hx : evq l o1 = some (.slice A m c) := by with_unfolding_all rfl) (hV : View w1 A xs := by assumption) (hy : evq l o2 = some (.int k x) := by with_unfolding_all rfl) (hb : 0 ≤ x ∧ x < m := by first | omega | decide) (hl : 0 < xs.length := by first | omega | (simp; done) | (simp; omega)) (hd : Nat.blt d n = true := by with_unfolding_all rfl) :
    HQ (wpList P ops Q (⟨some d, .indexAddr t o1 o2, ty, pos, after, none⟩ :: rest)) n l w :=
  st_at x.toNat (hV.some hl) h hx hy ⟨hb.1, hb.2, by omega⟩ hd
theorem st_idx_rowN (M : Mem w0 S L w) {A : Option Addr} {m c e tb sz i : Nat} {xs : List Value} [hu : Und P t (.slice e)] [hs : SzC P e 1] (h : HQ (wpList P ops Q rest) n ((d, .pointer (A.map (·.add i))) :: l) w) (hx : evq l o1 = some (.slice A m c) := by with_unfolding_all rfl) (hB : RowIn L A m c xs tb sz := by infer_instance) (hy : evq l o2 = some (.int k (i : Int)) := by with_unfolding_all rfl) (hb : i < m := by first | omega | decide) (hd : Nat.blt d n = true := by with_unfolding_all rfl) :
    HQ (wpList P ops Q (⟨some d, .indexAddr t o1 o2, ty, pos, after, none⟩ :: rest)) n l w :=
  st_at i (row_some (M.ok _ hB.h) (by omega)) h hx hy ⟨by omega, by omega, by omega⟩ hd
theorem st_idx_viewN {A : Option Addr} {m c e i : Nat} {w1 : World} {xs : List Value} [hu : Und P t (.slice e)] [hs : SzC P e 1] (h : HQ (wpList P ops Q rest) n ((d, .pointer (A.map (·.add i))) :: l) w) (hx : evq l o1 = some (.slice A m c) := by with_unfolding_all rfl) (hV : View w1 A xs := by assumption) (hy : evq l o2 = some (.int k (i : Int)) := by with_unfolding_all rfl) (hb : i < m := by first | omega | decide) (hl : 0 < xs.length := by first | omega | (simp; omega)) (hd : Nat.blt d n = true := by with_unfolding_all rfl) :
    HQ (wpList P ops Q (⟨some d, .indexAddr t o1 o2, ty, pos, after, none⟩ :: rest)) n l w :=
  st_at i (hV.some hl) h hx hy ⟨by omega, by omega, by omega⟩ hd
theorem map_getD {α : Type} (f : α → Value) (ys : List α) (j : Nat) (a : α) (h : j < ys.length) : (ys.map f)[j]? = some (f (ys.getD j a)) := by
  simp [List.getD, h]
theorem st_ld_row (M : Mem w0 S L w) {α : Type} [Inhabited α] {f : α → Value} {A : Option Addr} {m c tb sz j : Nat} {ys : List α} [hn : NaC P t] (h : HQ (wpList P ops Q rest) n ((d, f (ys.getD j default)) :: l) w) (hx : evq l o1 = some (.pointer (A.map (·.add j))) := by with_unfolding_all rfl) (hB : RowOf L A m c (ys.map f) tb sz := by infer_instance) (hj : j < ys.length := by first | omega | (simp; done) | (simp; omega)) (hd : Nat.blt d n = true := by with_unfolding_all rfl) :
    HQ (wpList P ops Q (⟨some d, .load t o1, ty, pos, after, none⟩ :: rest)) n l w :=
  st_load_view (view_row (M.ok _ hB.h)) h hx (map_getD f ys j default hj) hd
theorem st_ld_view (M : Mem w0 [] L w) {α : Type} [Inhabited α] {f : α → Value} {A : Option Addr} {j : Nat} {ys : List α} [hn : NaC P t] (h : HQ (wpList P ops Q rest) n ((d, f (ys.getD j default)) :: l) w) (hx : evq l o1 = some (.pointer (A.map (·.add j))) := by with_unfolding_all rfl) (hV : View w0 A (ys.map f) := by assumption) (hj : j < ys.length := by first | omega | (simp; done) | (simp; omega)) (hd : Nat.blt d n = true := by with_unfolding_all rfl) :
    HQ (wpList P ops Q (⟨some d, .load t o1, ty, pos, after, none⟩ :: rest)) n l w :=
  st_load_view (M.view hV) h hx (map_getD f ys j default hj) hd

/-! ### string(bytes) -/
theorem st_str_row (M : Mem w0 S L w) {A : Option Addr} {m c e tb sz : Nat} {bs : List UInt8} [h1 : Und P t (.slice e)] [h2 : Und P e (.int .u8)] [h3 : Und P t' .string] (h : HQ (wpList P ops Q rest) n ((d, .string (bstr bs)) :: l) w) (hx : evq l o1 = some (.slice A m c) := by with_unfolding_all rfl) (hB : RowIn L A m c (bs.map bv) tb sz := by infer_instance) (hm : bs.length = m := by first | omega | decide | (simp; done) | (simp; omega)) (hd : Nat.blt d n = true := by with_unfolding_all rfl) :
    HQ (wpList P ops Q (⟨some d, .convert t t' o1, ty, pos, after, none⟩ :: rest)) n l w :=
  st_string (view_row (M.ok _ hB.h)) h hx hm hd
theorem st_str_view (M : Mem w0 [] L w) {A : Option Addr} {m c e : Nat} {bs : List UInt8} [h1 : Und P t (.slice e)] [h2 : Und P e (.int .u8)] [h3 : Und P t' .string] (h : HQ (wpList P ops Q rest) n ((d, .string (bstr bs)) :: l) w) (hx : evq l o1 = some (.slice A m c) := by with_unfolding_all rfl) (hV : View w0 A (bs.map bv) := by assumption) (hm : bs.length = m := by first | omega | decide) (hd : Nat.blt d n = true := by with_unfolding_all rfl) :
    HQ (wpList P ops Q (⟨some d, .convert t t' o1, ty, pos, after, none⟩ :: rest)) n l w :=
  st_string (M.view hV) h hx hm hd

/-! ### append: onto an owned row, out of an owned row or of what came in -/
theorem st_app_row (M : Mem w0 S L w) {A B : Option Addr} {m c m2 c2 e sz bytes tb sb : Nat} {z : Value} {xs ys : List Value} {L' : Option Addr → Nat → List Ent} [hE : ElC P t e sz bytes z]
    (h : ∀ A' c' w', Mem w0 S (L' A' c') w' → HQ (wpList P ops Q rest) n ((d, .slice A' (m + m2) c') :: l) w') (hx : evq l o1 = some (.slice A m c) := by with_unfolding_all rfl) (hy : evq l o2 = some (.slice B m2 c2) := by with_unfolding_all rfl)
    (hB : RowIn L A m c xs e sz := by infer_instance) (hB2 : RowIn L B m2 c2 ys tb sb := by infer_instance) (hR : ∀ A' c', Repl L (.row A m c xs e sz) (.row A' (m + m2) c' (xs ++ ys) e sz) (L' A' c') := by infer_instance)
    (hl : ys.length = m2 * sz := by first | (with_unfolding_all rfl) | omega | (simp; done) | (simp; omega)) (h1 : ∀ u ∈ ys, u.oneCell' = true := by first | exact bv_oneCell _ | exact List.all_eq_true.1 rfl) (hb : (m + m2) * bytes ≤ 140737488355328 ∧ m + m2 ≤ maxLen := by simp only [maxLen]; omega) (hd : Nat.blt d n = true := by with_unfolding_all rfl) :
    HQ (wpList P ops Q (⟨some d, .call { callee := .builtin .append, args := #[o1, o2], argTypes := #[t, t] }, ty, pos, after, none⟩ :: rest)) n l w :=
  st_append M (view_row (M.ok _ hB2.h)) h1 h hx hy hB hR hl hb hd
theorem st_app_view (M : Mem w0 [] L w) {A B : Option Addr} {m c m2 c2 e sz bytes : Nat} {z : Value} {xs ys : List Value} {L' : Option Addr → Nat → List Ent} [hE : ElC P t e sz bytes z]
    (h : ∀ A' c' w', Mem w0 [] (L' A' c') w' → HQ (wpList P ops Q rest) n ((d, .slice A' (m + m2) c') :: l) w') (hx : evq l o1 = some (.slice A m c) := by with_unfolding_all rfl) (hy : evq l o2 = some (.slice B m2 c2) := by with_unfolding_all rfl)
    (hB : RowIn L A m c xs e sz := by infer_instance) (hV : View w0 B ys := by assumption) (hR : ∀ A' c', Repl L (.row A m c xs e sz) (.row A' (m + m2) c' (xs ++ ys) e sz) (L' A' c') := by infer_instance)
    (hl : ys.length = m2 * sz := by first | (with_unfolding_all rfl) | omega | (simp; done) | (simp; omega)) (h1 : ∀ u ∈ ys, u.oneCell' = true := by first | exact bv_oneCell _ | exact List.all_eq_true.1 rfl) (hb : (m + m2) * bytes ≤ 140737488355328 ∧ m + m2 ≤ maxLen := by simp only [maxLen]; omega) (hd : Nat.blt d n = true := by with_unfolding_all rfl) :
    HQ (wpList P ops Q (⟨some d, .call { callee := .builtin .append, args := #[o1, o2], argTypes := #[t, t] }, ty, pos, after, none⟩ :: rest)) n l w :=
  st_append M (M.view hV) h1 h hx hy hB hR hl hb hd

/-! ### Calls that write a block of ours -/
theorem st_callg (M : Mem w0 S L w) {g tb f : Nat} {arr : List Value} {os : List Operand} {vs : List Value} {ats : Array TypeId} {ι : Type} {arr' : ι → List Value} {E : ι → List Ent} {val : ι → Value} {R : ι → World → Prop} {L' : ι → List Ent} [hf : Entered P f] (he : evargs l os = some vs)
    (hC : Calls P f vs.toArray w (fun e w' => ∃ i, e = .returned (val i) ∧ Mem w [g] (.blk g (arr' i) tb :: E i) w' ∧ R i w'))
    (h : ∀ i w', R i w' → Mem w0 S (E i ++ L' i) w' → HQ (wpList P ops Q rest) n ((d, val i) :: l) w')
    (hB : BlkIn L g arr tb := by infer_instance) (hR : ∀ i, Repl L (.blk g arr tb) (.blk g (arr' i) tb) (L' i) := by infer_instance) (hd : Nat.blt d n = true := by with_unfolding_all rfl) :
    HQ (wpList P ops Q (⟨some d, .call { callee := .value (.func f), args := os.toArray, argTypes := ats }, ty, pos, after, none⟩ :: rest)) n l w := by
  refine st_call he hC (fun e w' ⟨i, e1, N, hr⟩ => ⟨val i, e1, h i w' hr ?_⟩) hd
  obtain ⟨R0, p1, p2⟩ := (hR i).h
  have M1 := M.front p1
  have hg := M1.own _ (List.mem_cons_self ..) g (by simp [Ent.blocks])
  have hds := M1.dis
  rw [List.flatMap_cons, List.nodup_append] at hds
  have M2 := M1.step (R := R0) N (List.sublist_cons_self _ _) (by simpa using hg) (fun e he k hk hT => by
    simp at hT
    subst hT
    exact hds.2.2 k (by simp [Ent.blocks]) k (List.mem_flatMap.2 ⟨e, he, hk⟩) rfl)
  refine M2.front ?_
  have p3 : ((Ent.blk g (arr' i) tb :: E i) ++ R0).Perm (E i ++ (Ent.blk g (arr' i) tb :: R0)) := by
    rw [List.cons_append]
    exact List.perm_middle.symm
  exact p3.trans (List.Perm.append_left _ p2)

theorem st_callg0 (M : Mem w0 S L w) {g tb f : Nat} {arr : List Value} {os : List Operand} {vs : List Value} {ats : Array TypeId} {ι : Type} {arr' : ι → List Value} {val : ι → Value} {R : ι → World → Prop} {L' : ι → List Ent} [hf : Entered P f] (he : evargs l os = some vs)
    (hC : Calls P f vs.toArray w (fun e w' => ∃ i, e = .returned (val i) ∧ Mem w [g] [.blk g (arr' i) tb] w' ∧ R i w'))
    (h : ∀ i w', R i w' → Mem w0 S (L' i) w' → HQ (wpList P ops Q rest) n ((d, val i) :: l) w')
    (hB : BlkIn L g arr tb := by infer_instance) (hR : ∀ i, Repl L (.blk g arr tb) (.blk g (arr' i) tb) (L' i) := by infer_instance) (hd : Nat.blt d n = true := by with_unfolding_all rfl) :
    HQ (wpList P ops Q (⟨some d, .call { callee := .value (.func f), args := os.toArray, argTypes := ats }, ty, pos, after, none⟩ :: rest)) n l w :=
  st_callg (E := fun _ => []) M he hC h hB hR hd
theorem st_callg1 (M : Mem w0 S L w) {g tb f : Nat} {arr : List Value} {os : List Operand} {vs : List Value} {ats : Array TypeId} {ι : Type} {arr' : ι → List Value} {E : ι → Ent} {val : ι → Value} {R : ι → World → Prop} {L' : ι → List Ent} [hf : Entered P f] (he : evargs l os = some vs)
    (hC : Calls P f vs.toArray w (fun e w' => ∃ i, e = .returned (val i) ∧ Mem w [g] [.blk g (arr' i) tb, E i] w' ∧ R i w'))
    (h : ∀ i w', R i w' → Mem w0 S (E i :: L' i) w' → HQ (wpList P ops Q rest) n ((d, val i) :: l) w')
    (hB : BlkIn L g arr tb := by infer_instance) (hR : ∀ i, Repl L (.blk g arr tb) (.blk g (arr' i) tb) (L' i) := by infer_instance) (hd : Nat.blt d n = true := by with_unfolding_all rfl) :
    HQ (wpList P ops Q (⟨some d, .call { callee := .value (.func f), args := os.toArray, argTypes := ats }, ty, pos, after, none⟩ :: rest)) n l w :=
  st_callg (E := fun i => [E i]) M he hC h hB hR hd
theorem st_callrr (M : Mem w0 S L w) {f : Nat} {os : List Operand} {vs : List Value} {ats : Array TypeId} {ι : Type} {E : ι → Ent} {val : ι → Value} [hf : Entered P f] (he : evargs l os = some vs)
    (hC : Calls P f vs.toArray w (fun e w' => ∃ i, e = .returned (val i) ∧ Mem w [] [E i] w'))
    (h : ∀ i w', Mem w0 S (E i :: L) w' → HQ (wpList P ops Q rest) n ((d, val i) :: l) w') (hd : Nat.blt d n = true := by with_unfolding_all rfl) :
    HQ (wpList P ops Q (⟨some d, .call { callee := .value (.func f), args := os.toArray, argTypes := ats }, ty, pos, after, none⟩ :: rest)) n l w :=
  st_call he hC (fun e w' ⟨i, e1, N⟩ => ⟨val i, e1, h i w' (M.call1 N)⟩) hd
end

/-! ### Strings told by their bytes -/
section
variable {P : Program} {Q : Exit → Act → World → Prop} {n : Nat} {l : List (Nat × Value)} {w w0 : World} {S : List Nat} {L : List Ent} {ops : Array Oper}
variable {rest : List Oper} {d ty t t' : Nat} {pos : String} {after : Array Edge} {v : Value} {o1 o2 : Operand}
theorem st_eqs_same {a : ByteArray} (h : HQ (wpList P ops Q rest) n ((d, .bool true) :: l) w) (hx : evq l o1 = some (.string a) := by with_unfolding_all rfl) (hy : evq l o2 = some (.string a) := by with_unfolding_all rfl) (hd : Nat.blt d n = true := by with_unfolding_all rfl) : HQ (wpList P ops Q (⟨some d, .binOp .eql t o1 o2 t', ty, pos, after, none⟩ :: rest)) n l w :=
  st_eqs (by rw [beq_self_eq_true]; exact h) hx hy hd
theorem st_nes_same {a : ByteArray} (h : HQ (wpList P ops Q rest) n ((d, .bool false) :: l) w) (hx : evq l o1 = some (.string a) := by with_unfolding_all rfl) (hy : evq l o2 = some (.string a) := by with_unfolding_all rfl) (hd : Nat.blt d n = true := by with_unfolding_all rfl) : HQ (wpList P ops Q (⟨some d, .binOp .neq t o1 o2 t', ty, pos, after, none⟩ :: rest)) n l w :=
  st_nes (by rw [beq_self_eq_true]; exact h) hx hy hd
theorem st_eqbs {a b : List UInt8} (h : HQ (wpList P ops Q rest) n ((d, .bool (a == b)) :: l) w) (hx : evq l o1 = some (.string (bstr a)) := by with_unfolding_all rfl) (hy : evq l o2 = some (.string (bstr b)) := by with_unfolding_all rfl) (hd : Nat.blt d n = true := by with_unfolding_all rfl) : HQ (wpList P ops Q (⟨some d, .binOp .eql t o1 o2 t', ty, pos, after, none⟩ :: rest)) n l w :=
  st_eqs (by rw [bstr_toList, bstr_toList]; exact h) hx hy hd
theorem st_nebs {a b : List UInt8} (h : HQ (wpList P ops Q rest) n ((d, .bool (!(a == b))) :: l) w) (hx : evq l o1 = some (.string (bstr a)) := by with_unfolding_all rfl) (hy : evq l o2 = some (.string (bstr b)) := by with_unfolding_all rfl) (hd : Nat.blt d n = true := by with_unfolding_all rfl) : HQ (wpList P ops Q (⟨some d, .binOp .neq t o1 o2 t', ty, pos, after, none⟩ :: rest)) n l w :=
  st_nes (by rw [bstr_toList, bstr_toList]; exact h) hx hy hd
end

/-! ### Regions that draw their order: calls that make a row, what reads it -/
def RowV (B m : Nat) (xs : List Value) (ty sz : Nat) : Pr := fun v w => ∃ A c, v = .slice A m c ∧ (Ent.row A m c xs ty sz).ok w ∧ ∀ k ∈ (Ent.row A m c xs ty sz).blocks, B ≤ k
theorem RowV.stable (B m : Nat) (xs : List Value) (ty sz : Nat) : Stable (RowV B m xs ty sz) := fun v w w' ⟨A, c, e, h, hb⟩ hE => ⟨A, c, e, Ent.ok_of_same h (fun k hk => hE.block k (Ent.lt h k hk)), hb⟩
class GIn (G : List (Nat × Pr)) (s : Nat) (Φ : outParam Pr) : Prop where h : (s, Φ) ∈ G
instance gin0 (s : Nat) (Φ : Pr) (G : List (Nat × Pr)) : GIn ((s, Φ) :: G) s Φ := ⟨List.mem_cons_self ..⟩
instance ginS (s s' : Nat) (Φ Ψ : Pr) (G : List (Nat × Pr)) [h : GIn G s Φ] : GIn ((s', Ψ) :: G) s Φ := ⟨List.mem_cons_of_mem _ h.h⟩
section
variable {P : Program} {ops : Array Oper} {n : Nat} {l lx : List (Nat × Value)} {w : World} {E : List (Nat × Value) → List (Nat × Pr) → Prop} {os : List Oper} {G : List (Nat × Pr)}
  {d ty t t' : Nat} {op : Op} {pos : String} {after : Array Edge} {g : Option (Nat × Bool)} {lz : List (Nat × Value)} {a : Act} {w' : World} {o : Oper}
theorem dag_okr {m tx sz : Nat} {xs : List Value} (ho : Obl P ops n l w ⟨some d, op, ty, pos, after, g⟩ lx G (RowV w.heap.size m xs tx sz)) (h : DagW P ops n l w E os lx ((d, RowV w.heap.size m xs tx sz) :: G)) : DagW P ops n l w E (⟨some d, op, ty, pos, after, g⟩ :: os) lx G := dag_ok _ (RowV.stable _ _ _ _ _) ho h
theorem dag_callr {f m tx sz : Nat} {xs : List Value} {args : List Operand} {vs : List Value} {ats : Array TypeId} (hE : Ext w w') (hF : Full n lz a) [hf : Entered P f] (he : evargs lz args = some vs) (hC : Calls P f vs.toArray w' (RetR w' m xs tx sz)) (hd : Nat.blt d n = true := by with_unfolding_all rfl) :
    HQ (wpList P ops (QD a w' (some d) (RowV w.heap.size m xs tx sz)) [⟨some d, .call { callee := .value (.func f), args := args.toArray, argTypes := ats }, ty, pos, after, none⟩]) n lz w' :=
  st_call he hC (fun _ w1 ⟨A, c, e, N⟩ => ⟨_, e, hq_nil fun a' ha' => ⟨rfl, _, hF.put hd ha', N.below, A, c, rfl, N.r0, fun k hk => by
    rcases N.own _ (List.mem_cons_self ..) k hk with h | h
    · exact Nat.le_trans hE.size h
    · cases h⟩⟩) hd
theorem HQ.known {q : Act → World → Prop} {s : Nat} {Φ : Pr} (hF : Full n lz a) (hK : Kn ops o G a w') [hG : GIn G s Φ] (hlk : looks ops o s = true) (h : ∀ v, Φ v w' → Full n ((s, v) :: lz) a → HQ q n ((s, v) :: lz) w') : HQ q n lz w' := by
  obtain ⟨v, hv, hΦ⟩ := hK (s, Φ) hG.h hlk
  exact HQ.add (hF.look hv) (h v hΦ (hF.add (hF.look hv)))
theorem dag_conv_row {bs : List UInt8} {m s e : Nat} (hF : Full n lz a) (hK : Kn ops o G a w') {B tx sz : Nat} [hG : GIn G s (RowV B m (bs.map bv) tx sz)] [h1 : Und P t (.slice e)] [h2 : Und P e (.int .u8)] [h3 : Und P t' .string] (hlk : looks ops o s = true := by with_unfolding_all rfl) (hm : bs.length = m := by first | omega | decide | (simp; done) | (simp; omega)) (hd : Nat.blt d n = true := by with_unfolding_all rfl) :
    HQ (wpList P ops (QD a w' (some d) (fun u _ => u = .string (bstr bs))) [⟨some d, .convert t t' (.tmp s), ty, pos, after, none⟩]) n lz w' :=
  HQ.known hF hK hlk fun v hΦ hF => by
    obtain ⟨A, c, rfl, hV, _⟩ := hΦ
    refine st_string (A := A) (m := m) (c := c) (bs := bs) (view_row hV) ?_ (by simp [evq, lookq]) hm hd
    exact hq_nil fun a' ha' => ⟨rfl, _, hF.put hd ha', Below.refl _ _, rfl⟩
theorem dag_copy {B m tx sz s : Nat} {xs : List Value} [hG : GIn G s (RowV B m xs tx sz)] (h : DagW P ops n l w E os lx ((d, RowV B m xs tx sz) :: G)) (hlk : looks ops ⟨some d, .assign (.tmp s), ty, pos, after, none⟩ s = true := by with_unfolding_all rfl) (hd : Nat.blt d n = true := by with_unfolding_all rfl) :
    DagW P ops n l w E (⟨some d, .assign (.tmp s), ty, pos, after, none⟩ :: os) lx G :=
  dag_ok _ (RowV.stable _ _ _ _ _) (fun w' a lz hE hF hK => HQ.known hF hK hlk fun v hΦ hF => st_assign (v := v) (hq_nil fun a' ha' => ⟨rfl, _, hF.put hd ha', Below.refl _ _, hΦ⟩) (by simp [evq, lookq]) hd) h
theorem dag_move {B m tx sz s : Nat} {xs : List Value} [hG : GIn G s (RowV B m xs tx sz)] (h : DagW P ops n l w E os lx ((d, RowV B m xs tx sz) :: G)) (hlk : looks ops ⟨some d, .move (.tmp s), ty, pos, after, none⟩ s = true := by with_unfolding_all rfl) (hd : Nat.blt d n = true := by with_unfolding_all rfl) :
    DagW P ops n l w E (⟨some d, .move (.tmp s), ty, pos, after, none⟩ :: os) lx G :=
  dag_ok _ (RowV.stable _ _ _ _ _) (fun w' a lz hE hF hK => HQ.known hF hK hlk fun v hΦ hF => st_move (v := v) (hq_nil fun a' ha' => ⟨rfl, _, hF.put hd ha', Below.refl _ _, hΦ⟩) (by simp [evq, lookq]) hd) h
/-- Behind the region, with a row that was made in it. -/
theorem dag_done_row {q : Act → World → Prop} {w0 : World} {S : List Nat} {L : List Ent} (M : Mem w0 S L w) (s : Nat) {m tx sz : Nat} {xs : List Value} [hG : GIn G s (RowV w.heap.size m xs tx sz)] (h : ∀ A c w', Mem w0 S (.row A m c xs tx sz :: L) w' → HQ q n ((s, .slice A m c) :: (lx ++ l)) w') : DEnd q n l w lx G := fun w' a hE ha hK => by
  obtain ⟨v, hv, A, c, rfl, hr, hb⟩ := hK _ hG.h
  have M' : Mem w0 S (.row A m c xs tx sz :: L) w' := M.call1 ⟨hE.os, hE.tape, hE.output, hE.size, fun k hk _ => hE.block k hk, by intro e he; simp at he; subst he; exact hr, by intro e he k hk; simp at he; subst he; exact .inl (hb k hk), by
    cases A <;> simp [Ent.blocks]⟩
  refine h A c w' M' a ⟨ha.size, ha.defers, fun u x hu => ?_⟩
  simp only [lookq] at hu
  cases hb : Nat.beq u s
  · rw [hb] at hu; exact ha.at_ u x hu
  · rw [hb] at hu
    simp only [cond_true, Option.some.injEq] at hu
    subst hu
    rw [Nat.eq_of_beq_eq_true hb]
    exact hv
end

/-- A row's contents, told anew. -/
theorem Mem.cast {w0 w : World} {S : List Nat} {L L' : List Ent} (M : Mem w0 S L w) (h : L = L') : Mem w0 S L' w := h ▸ M
theorem view_bytes_nil {w : World} {bs : List UInt8} (h : View w none (bs.map bv)) : bs = [] := by
  cases bs with
  | nil => rfl
  | cons b bs => obtain ⟨ad, e, _⟩ := h 0 _ rfl; cases e
end Go.Proofs.Ytdgbgnkfjcbgiaa.Sx
