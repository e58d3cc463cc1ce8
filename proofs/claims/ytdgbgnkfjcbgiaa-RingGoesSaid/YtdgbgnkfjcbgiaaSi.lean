/-
  Strings of one byte; regions that draw their order and make a struct that holds a row, a block.
-/
import Derived.Test.YtdgbgnkfjcbgiaaSg
set_option linter.unusedVariables false
set_option linter.unusedSimpArgs false
namespace Go.Proofs.Ytdgbgnkfjcbgiaa.Sx
open Go Go.RowKit

section
variable {P : Program} {Q : Exit → Act → World → Prop} {n : Nat} {l : List (Nat × Value)} {w : World} {ops : Array Oper}
variable {rest : List Oper} {d ty t t' : Nat} {pos : String} {after : Array Edge} {v : Value} {o1 o2 : Operand} {x y : Int} {k k' : IntKind}
/-- The string of one zero byte. -/
def nul : ByteArray := ⟨#[0]⟩
theorem st_len_nul {t1 : Nat} [hP : Und P t1 .string] (h : HQ (wpList P ops Q rest) n ((d, .int .i64 1) :: l) w) (hx : evq l o1 = some (.string nul) := by with_unfolding_all rfl) (hd : Nat.blt d n = true := by with_unfolding_all rfl) : HQ (wpList P ops Q (⟨some d, .call { callee := .builtin .len, args := #[o1], argTypes := #[t1] }, ty, pos, after, none⟩ :: rest)) n l w :=
  hq_op hd (fun a ha => by
    have e : (nul.size : Int) = 1 := rfl
    simp [execOp, ha.eval hx, resolve, invoke, builtin, Builtin.len_, goInt, underlying, program, hP.h, pure, bind, Sem.bind, Sem.run, e]) h
theorem st_idx_nul [hP : Und P t .string] (h : HQ (wpList P ops Q rest) n ((d, .int .u8 0) :: l) w) (hx : evq l o1 = some (.string nul) := by with_unfolding_all rfl) (hy : evq l o2 = some (.int .i64 0) := by with_unfolding_all rfl) (hd : Nat.blt d n = true := by with_unfolding_all rfl) : HQ (wpList P ops Q (⟨some d, .index t o1 o2, ty, pos, after, none⟩ :: rest)) n l w :=
  hq_op hd (fun a ha => by
    have e : nul[0]? = some 0 := rfl
    simp [execOp, ha.eval hx, ha.eval hy, Instr.index, asIntOf, run_underlying hP.h, e]) h
theorem st_eq_nul (h : HQ (wpList P ops Q rest) n ((d, .bool false) :: l) w) (hx : evq l o1 = some (.string nul) := by with_unfolding_all rfl) (hy : evq l o2 = some (.string ⟨#[]⟩) := by with_unfolding_all rfl) (hd : Nat.blt d n = true := by with_unfolding_all rfl) : HQ (wpList P ops Q (⟨some d, .binOp .eql t o1 o2 t', ty, pos, after, none⟩ :: rest)) n l w :=
  st_eqs (by rw [show (nul.toList == (⟨#[]⟩ : ByteArray).toList) = false from by rw [ByteArray.toList_eq, ByteArray.toList_eq]; rfl]; exact h) hx hy hd
end

/-! ### Facts of a region that draws its order -/
/-- A struct of four whole numbers and a new row. -/
def PcV (B : Nat) (x0 x1 x2 x3 : Int) (m : Nat) (xs : List Value) (ty sz : Nat) : Pr := fun v w => ∃ A c, v = .agg [.int .i64 x0, .int .i64 x1, .int .i64 x2, .int .i64 x3, .slice A m c].toArray ∧ (Ent.row A m c xs ty sz).ok w ∧ ∀ k ∈ (Ent.row A m c xs ty sz).blocks, B ≤ k
theorem PcV.stable (B : Nat) (x0 x1 x2 x3 : Int) (m : Nat) (xs : List Value) (ty sz : Nat) : Stable (PcV B x0 x1 x2 x3 m xs ty sz) := fun v w w' ⟨A, c, e, h, hb⟩ hE => ⟨A, c, e, Ent.ok_of_same h (fun k hk => hE.block k (Ent.lt h k hk)), hb⟩
def BlkV (B : Nat) (arr : List Value) (ty : Nat) : Pr := fun v w => ∃ g, v = .pointer (some ⟨g, 0, none⟩) ∧ (Ent.blk g arr ty).ok w ∧ B ≤ g
theorem BlkV.stable (B : Nat) (arr : List Value) (ty : Nat) : Stable (BlkV B arr ty) := fun v w w' ⟨g, e, h, hb⟩ hE => ⟨g, e, Ent.ok_of_same h (fun k hk => hE.block k (Ent.lt h k hk)), hb⟩
section
variable {P : Program} {ops : Array Oper} {n : Nat} {l lx : List (Nat × Value)} {w : World} {E : List (Nat × Value) → List (Nat × Pr) → Prop} {os : List Oper} {G : List (Nat × Pr)}
  {d ty t t' : Nat} {op : Op} {pos : String} {after : Array Edge} {g : Option (Nat × Bool)} {lz : List (Nat × Value)} {a : Act} {w' : World} {o : Oper}
theorem dag_okb {arr : List Value} {tb : Nat} (ho : Obl P ops n l w ⟨some d, op, ty, pos, after, g⟩ lx G (BlkV w.heap.size arr tb)) (h : DagW P ops n l w E os lx ((d, BlkV w.heap.size arr tb) :: G)) : DagW P ops n l w E (⟨some d, op, ty, pos, after, g⟩ :: os) lx G := dag_ok _ (BlkV.stable _ _ _) ho h
theorem dag_alloc {arr : List Value} (hE : Ext w w') (hF : Full n lz a) [hz : ZeC P t arr] (hd : Nat.blt d n = true := by with_unfolding_all rfl) :
    HQ (wpList P ops (QD a w' (some d) (BlkV w.heap.size arr t)) [⟨some d, .alloc t, ty, pos, after, none⟩]) n lz w' :=
  st_alloc (Mem.refl w') (fun g w1 N => hq_nil fun a' ha' => ⟨rfl, _, hF.put hd ha', N.below, g, rfl, N.b0, by
    rcases N.own _ (List.mem_cons_self ..) g (by simp [Ent.blocks]) with h | h
    · exact Nat.le_trans hE.size h
    · cases h⟩) hd
theorem dag_okp {m : Nat} {x0 x1 x2 x3 : Int} {xs : List Value} {tx sz : Nat} (ho : Obl P ops n l w ⟨some d, op, ty, pos, after, g⟩ lx G (PcV w.heap.size x0 x1 x2 x3 m xs tx sz)) (h : DagW P ops n l w E os lx ((d, PcV w.heap.size x0 x1 x2 x3 m xs tx sz) :: G)) : DagW P ops n l w E (⟨some d, op, ty, pos, after, g⟩ :: os) lx G := dag_ok _ (PcV.stable _ _ _ _ _ _ _ _ _) ho h
/-- A struct that holds a row that the region has made: the field 4. -/
theorem dag_build_pc {s m : Nat} {x0 x1 x2 x3 : Int} {xs : List Value} {tx sz : Nat} {i0 i1 i2 i3 : Operand} (hF : Full n lz a) (hK : Kn ops o G a w') [hG : GIn G s (RowV w.heap.size m xs tx sz)] [hpl : PlC P t [(0, 1), (1, 1), (2, 1), (3, 1), (4, 1)]] [hz : ZeC P t [.int .i64 0, .int .i64 0, .int .i64 0, .int .i64 0, .slice none 0 0]]
    (h0 : evq lz i0 = some (.int .i64 x0)) (h1 : evq lz i1 = some (.int .i64 x1)) (h2 : evq lz i2 = some (.int .i64 x2)) (h3 : evq lz i3 = some (.int .i64 x3)) (hlk : looks ops o s = true := by with_unfolding_all rfl) (hd : Nat.blt d n = true := by with_unfolding_all rfl) :
    HQ (wpList P ops (QD a w' (some d) (PcV w.heap.size x0 x1 x2 x3 m xs tx sz)) [⟨some d, .build t #[(0, i0), (1, i1), (2, i2), (3, i3), (4, .tmp s)], ty, pos, after, none⟩]) n lz w' := by
  obtain ⟨v, hv, A, c, rfl, hr, hb⟩ := hK (s, RowV w.heap.size m xs tx sz) hG.h hlk
  have h4 : evq lz (.tmp s) = some (.slice A m c) := hF.look hv
  refine st_build_struct (ps := [(0, i0), (1, i1), (2, i2), (3, i3), (4, .tmp s)]) (vs := [(0, .int .i64 x0), (1, .int .i64 x1), (2, .int .i64 x2), (3, .int .i64 x3), (4, .slice A m c)]) (hq_nil fun a' ha' => ⟨rfl, _, hF.put hd ha', Below.refl _ _, A, c, rfl, hr, hb⟩) ?_ rfl hd
  simp only [evps, h0, h1, h2, h3, h4]
/-- Behind the region: the struct with its row, the new block: they are two (their types are). -/
theorem dag_done_pc {q : Act → World → Prop} {w0 : World} {S : List Nat} {L : List Ent} (M : Mem w0 S L w) (s r : Nat) {m tx sz tb : Nat} {x0 x1 x2 x3 : Int} {xs arr : List Value} (hsr : Nat.beq s r = false) (ht : tx ≠ tb) [hG : GIn G s (PcV w.heap.size x0 x1 x2 x3 m xs tx sz)] [hG2 : GIn G r (BlkV w.heap.size arr tb)]
    (h : ∀ A c g w', Mem w0 S (.blk g arr tb :: .row A m c xs tx sz :: L) w' → HQ q n ((s, .agg [.int .i64 x0, .int .i64 x1, .int .i64 x2, .int .i64 x3, .slice A m c].toArray) :: (r, .pointer (some ⟨g, 0, none⟩)) :: (lx ++ l)) w') : DEnd q n l w lx G := fun w' a hE ha hK => by
  obtain ⟨v, hv, A, c, rfl, hr, hb⟩ := hK _ hG.h
  obtain ⟨v2, hv2, g, rfl, hr2, hb2⟩ := hK _ hG2.h
  have hne : ∀ k ∈ (Ent.row A m c xs tx sz).blocks, k ≠ g := by
    intro k hk e
    subst e
    rcases hr.2 with ⟨h1, h2⟩ | ⟨g', c', cur, hv', hg', hh, hrest⟩
    · injection h1 with h1; subst h1; simp [Ent.blocks] at hk
    · injection hv' with h1
      subst h1
      simp [Ent.blocks] at hk
      subst hk
      simp only [Ent.ok] at hr2
      rw [hh] at hr2
      injection hr2 with hr2
      injection hr2 with _ e2
      exact ht e2
  have M' : Mem w0 S (.blk g arr tb :: .row A m c xs tx sz :: L) w' := M.call2 ⟨hE.os, hE.tape, hE.output, hE.size, fun k hk _ => hE.block k hk, by
    intro e he
    simp at he
    rcases he with rfl | rfl
    · exact hr2
    · exact hr, by
    intro e he k hk
    simp at he
    rcases he with rfl | rfl
    · simp [Ent.blocks] at hk; subst hk; exact .inl hb2
    · exact .inl (hb k hk), by
    simp only [List.flatMap_cons, List.flatMap_nil, List.append_nil]
    rw [List.nodup_append]
    refine ⟨by simp [Ent.blocks], by cases A <;> simp [Ent.blocks], fun x hx y hy e => ?_⟩
    subst e
    simp [Ent.blocks] at hx
    exact hne _ hy hx⟩
  refine h A c g w' M' a ⟨ha.size, ha.defers, fun u x hu => ?_⟩
  simp only [lookq] at hu
  cases hbs : Nat.beq u s
  · rw [hbs] at hu
    simp only [cond_false] at hu
    cases hbr : Nat.beq u r
    · rw [hbr] at hu; exact ha.at_ u x hu
    · rw [hbr] at hu
      simp only [cond_true, Option.some.injEq] at hu
      subst hu
      rw [Nat.eq_of_beq_eq_true hbr]
      exact hv2
  · rw [hbs] at hu
    simp only [cond_true, Option.some.injEq] at hu
    subst hu
    rw [Nat.eq_of_beq_eq_true hbs]
    exact hv
end
end Go.Proofs.Ytdgbgnkfjcbgiaa.Sx
