/-
  Regions that draw their order: 'make'; '==' of arrays of pairs.
-/
import Derived.Test.YtdgbgnkfjcbgiaaSp
set_option linter.unusedVariables false
set_option linter.unusedSimpArgs false
namespace Go.Proofs.Ytdgbgnkfjcbgiaa.Sx
open Go Go.RowKit

section
variable {P : Program} {ops : Array Oper} {n : Nat} {l lx : List (Nat × Value)} {w : World} {E : List (Nat × Value) → List (Nat × Pr) → Prop} {os : List Oper} {G : List (Nat × Pr)}
  {d ty t t' : Nat} {op : Op} {pos : String} {after : Array Edge} {g : Option (Nat × Bool)} {lz : List (Nat × Value)} {a : Act} {w' : World} {o : Oper} {o1 o2 : Operand} {k k' : IntKind} {v : Value}
theorem dag_make {e m : Nat} {xs : List Value} (hE : Ext w w') (hF : Full n lz a) [hu : Und P t (.slice e)] [hi' : MkC P t e v] (he : List.replicate m v = xs) (hx : evq lz o1 = some (.int k (m : Int)) := by with_unfolding_all rfl) (hy : evq lz o2 = some (.int k' (m : Int)) := by with_unfolding_all rfl) (hm : m ≤ 140737488351232 := by first | omega | decide) (hd : Nat.blt d n = true := by with_unfolding_all rfl) :
    HQ (wpList P ops (QD a w' (some d) (RowV w.heap.size m xs e 1)) [⟨some d, .makeSlice t o1 o2, ty, pos, after, none⟩]) n lz w' := by
  subst he
  exact st_make (Mem.refl w') (fun g w1 N => hq_nil fun a' ha' => ⟨rfl, _, hF.put hd ha', N.below, _, _, rfl, N.r0, fun k hk => by
    rcases N.own _ (List.mem_cons_self ..) k hk with h | h
    · exact Nat.le_trans hE.size h
    · cases h⟩) hx hy hm hd
end

section
variable {P : Program} {w : World} {t : Nat}
theorem prs2_seg : ∀ (ps : List (Int × Int)) (i : Nat) (p : Int × Int), ps[i]? = some p → ((prs2 ps).drop (i * 2)).take 2 = [iv2 p.1, iv2 p.2]
  | q :: ps, 0, p, h => by simp at h; subst h; rfl
  | q :: ps, i + 1, p, h => by
    simp at h
    have := prs2_seg ps i p h
    rw [show (i + 1) * 2 = i * 2 + 2 from by omega]
    simpa [prs2] using this
theorem run_part_prs {e i : Nat} {xs : List (Int × Int)} {x : Int × Int} (hs : sizeP P e = some 2) (ha : isAggB P e = true) (hx : xs[i]? = some x) : (part e (prs2 xs).toArray (i * 2)).run P w = .ok (.agg [iv2 x.1, iv2 x.2].toArray) w := by
  have h0 := prs2_seg xs i x hx
  have h1 : i * 2 + 2 ≤ (prs2 xs).length := by
    have := (List.getElem?_eq_some_iff.1 hx).1
    rw [prs2_length]; omega
  rw [← h0]
  simp [part, run_isAgg_yes ha, run_sizeOf hs, h1]
theorem run_equalIn_prs {m e dd : Nat} {xs ys : List (Int × Int)} (hu : P.underlying t = some (.array m e)) (hs : sizeP P e = some 2) (ha : isAggB P e = true) (hu' : P.underlying e = some (.struct (P.fieldsOf e))) (hp : P.stoodInHeld e = false)
    (hc : fieldsChk P .i64 0 (P.fieldsOf e).toList = true) (hm : (P.fieldsOf e).toList.length = 2) (hx : xs.length = m) (hy : ys.length = m) :
    (Op.equalIn (dd + 3) t (.agg (prs2 xs).toArray) (.agg (prs2 ys).toArray)).run P w = .ok (xs == ys) w := by
  have key := run_equalIn_arr (P := P) (w := w) (dd := dd + 2) (xs := (prs2 xs).toArray) (ys := (prs2 ys).toArray) (b := fun i => xs.getD i (0, 0) == ys.getD i (0, 0)) hu hs (fun i hi => by
    have h1 : xs[i]? = some (xs.getD i (0, 0)) := by simp [List.getD, show i < xs.length by omega]
    have h2 : ys[i]? = some (ys.getD i (0, 0)) := by simp [List.getD, show i < ys.length by omega]
    have h3 := run_equalIn_fields (P := P) (w := w) (k := .i64) (t := e) (dd := dd) (xs := [(xs.getD i (0, 0)).1, (xs.getD i (0, 0)).2]) (ys := [(ys.getD i (0, 0)).1, (ys.getD i (0, 0)).2]) hu' hp hc hm rfl rfl
    have h3' : (Op.equalIn (dd + 2) e (.agg [iv2 (xs.getD i (0, 0)).1, iv2 (xs.getD i (0, 0)).2].toArray) (.agg [iv2 (ys.getD i (0, 0)).1, iv2 (ys.getD i (0, 0)).2].toArray)).run P w = _ := h3
    simp only [Sem.run_bind, run_part_prs hs ha h1, run_part_prs hs ha h2, Result.andThen_ok, h3']
    congr 1
    generalize xs.getD i (0, 0) = p
    generalize ys.getD i (0, 0) = q
    obtain ⟨p1, p2⟩ := p
    obtain ⟨q1, q2⟩ := q
    rw [Bool.eq_iff_iff]
    simp)
  rw [key]
  congr 1
  rw [Bool.eq_iff_iff, List.all_eq_true, beq_iff_eq]
  constructor
  · intro h
    apply List.ext_getElem (by omega)
    intro i h1 h2
    have := h i (List.mem_range.2 (by omega))
    simpa [List.getD, h1, h2] using this
  · rintro rfl i _
    simp
end
end Go.Proofs.Ytdgbgnkfjcbgiaa.Sx
