/-
  append of zeros, rows that came in and are written, arrays by their pointers and values.
-/
import Derived.Test.YtdgbgnkfjcbgiaaSb
import Derived.Lib.AppendZerosOnto
set_option linter.unusedVariables false
set_option linter.unusedSimpArgs false
namespace Go.Proofs.Ytdgbgnkfjcbgiaa.Sx
open Go Go.RowKit

section
variable {P : Program} {Q : Exit → Act → World → Prop} {n : Nat} {l : List (Nat × Value)} {w w0 : World} {S : List Nat} {L : List Ent} {ops : Array Oper}
variable {rest : List Oper} {d ty t t' : Nat} {pos : String} {after : Array Edge} {v : Value} {o1 o2 : Operand} {x y : Int} {k k' : IntKind}

theorem zeroCells_one {z : Value} (hz : z.cells = #[z]) (k : Nat) : (Builtin.zeroCells z.cells k).toList = List.replicate k z := by
  apply List.ext_getElem
  · simp [Builtin.zeroCells, hz]
  · intro i h1 h2
    simp [Builtin.zeroCells, hz, Nat.mod_one]
theorem run_append_zeros {A : Option Addr} {m c e bytes tn kk : Nat} {z : Value} {xs : List Value} {kn : IntKind} (hE : Elem P t e 1 bytes z) (htn : P.underlying tn = some (.int kn)) (hz1 : z.cells = #[z]) (hu : z.oneCell' = true) (M : Mem w0 S (.row A m c xs e 1 :: L) w)
    (hb : (m + kk) * bytes ≤ 140737488355328) (h63 : m + kk ≤ maxLen) :
    ∃ A' c' w', (Builtin.append_ #[t, tn] ty #[.slice A m c, .int k (kk : Int)]).run P w = .ok (.slice A' (m + kk) c') w' ∧ Mem w0 S (.row A' (m + kk) c' (xs ++ List.replicate kk z) e 1 :: L) w' := by
  obtain ⟨ht, hinf, hzs, hsz⟩ := hE
  obtain ⟨i, hi, hz, hi1, hi2⟩ : ∃ i, P.info? e = some i ∧ i.zero = some z ∧ i.size = 1 ∧ i.bytes = bytes := by
    cases h : P.info? e with
    | none => rw [h] at hinf; cases hinf
    | some i => rw [h] at hinf; simp at hinf; exact ⟨i, rfl, hinf.1, hinf.2.1, hinf.2.2⟩
  subst hi2
  have hrow := M.r0
  have hcap := Ent.cap_le hrow
  have hxs := Ent.len hrow
  have h63' : m + kk ≤ 9223372036854775807 := by simpa [maxLen] using h63
  have hw : IntKind.i64.wrap (kk : Int) = kk := by rw [IntKind.wrap_i64]; omega
  have hneg : ¬ ((kk : Int) < 0) := by omega
  have hkb : kk * i.bytes ≤ (m + kk) * i.bytes := Nat.mul_le_mul_right _ (by omega)
  have h48i : ¬ (281474976710656 < (kk : Int) * (i.bytes : Int)) := by
    rw [← Int.natCast_mul]
    omega
  by_cases hroom : m + kk ≤ c
  · cases A with
    | none =>
      have h0 : m = 0 ∧ c = 0 := by
        rcases hrow.2 with ⟨h1, h2⟩ | ⟨g, cc, cur, hv, _⟩
        · injection h1 with _ _ h3; exact ⟨h2, h3⟩
        · injection hv with h; cases h
      have hk0 : kk = 0 := by omega
      subst hk0
      refine ⟨none, c, w, ?_, by simpa using M⟩
      simp [Builtin.append_, run_underlying ht, run_underlying htn, sizeOf, typeInfo, zeroValue, hi, hz, hi1, asInt, asIntOf, hroom]
      simp [IntKind.wrap_i64]
      omega
    | some a =>
      obtain ⟨g, more, rfl, hlm, Mb⟩ := M.toBlk
      by_cases hk0 : kk = 0
      · subst hk0
        refine ⟨some ⟨g, 0, none⟩, c, w, ?_, by simpa using M⟩
        simp [Builtin.append_, run_underlying ht, run_underlying htn, sizeOf, typeInfo, zeroValue, hi, hz, hi1, asInt, asIntOf, hcap.1, storeCells]
        simp [IntKind.wrap_i64]
        intro h
        have := hcap.1
        omega
      · have hst := run_storeCells_at P g (m * 1) e (List.replicate kk z) 0 (xs ++ more).toArray w Mb.b0 (by simp only [List.length_replicate, List.size_toArray, hlm]; omega) (by intro u hu'; rw [List.mem_replicate] at hu'; rw [hu'.2]; exact hu)
        simp only [Nat.add_zero] at hst
        refine ⟨some ⟨g, 0, none⟩, c, w.setRow g ((xs ++ more).toArray.toList.take (m * 1) ++ List.replicate kk z ++ (xs ++ more).toArray.toList.drop (m * 1 + (List.replicate kk z).length)).toArray, ?_, ?_⟩
        · have hzl := zeroCells_one hz1 kk
          simp [Builtin.append_, run_underlying ht, run_underlying htn, sizeOf, typeInfo, zeroValue, hi, hz, hi1, asInt, asIntOf, hw, hneg, h48i, hroom, hk0, hzl, addr0]
          simp at hst
          rw [hst]
          rfl
        · have e1 : ((xs ++ more).toArray.toList.take (m * 1) ++ List.replicate kk z ++ (xs ++ more).toArray.toList.drop (m * 1 + (List.replicate kk z).length)) = (xs ++ List.replicate kk z) ++ more.drop kk := by
            simp only [← hxs]
            simp
          rw [e1]
          exact Mem.toRow (Mb.setRow (arr' := xs ++ List.replicate kk z ++ more.drop kk)) (by simp; omega) (by simp at hlm ⊢; omega) hroom hcap.2
  · have hold : (Builtin.firstCells i.size m (.slice A m c)).run P w.drew = .ok xs.toArray w.drew := by
      cases A with
      | none =>
        have h0 : m = 0 := by
          rcases hrow.2 with ⟨h1, h2⟩ | ⟨g, cc, cur, hv, _⟩
          · exact h2
          · injection hv with h; cases h
        have hx : xs = [] := List.eq_nil_of_length_eq_zero (by omega)
        subst hx
        simp [Builtin.firstCells]
      | some a =>
        have hV : View w.drew (some a) xs := (view_row hrow).ext (Below.refl _ _).drew
        have := run_loadCells_view (P := P) hV
        simp only [Builtin.firstCells]
        rw [show m * i.size = xs.length from by rw [hxs, hi1]]
        exact this
    have hr := Go.Lib.run_append_grow_zeros (P := P) w t tn ty e i z k kn ht htn hi hz A m c xs hold kk (by omega) (by omega) (by omega) (by omega) (by omega) (growslice_fits (by omega) hb)
    have hge := grownCap_ge w (m + kk) c e
    have hcm := grownCap_le_maxLen w (m + kk) c e h63
    refine ⟨_, _, _, hr, ?_⟩
    have := M.newRow (m := m + kk) (c := grownCap w (m + kk) c e) (sz := 1) (e := e) (xs := xs ++ List.replicate kk z) (zs := (Builtin.zeroCells z.cells (grownCap w (m + kk) c e - (m + kk))).toList) (by simp; omega) (by
      rw [zeroCells_one hz1]
      simp only [List.length_append, List.length_replicate]
      omega) hge hcm
    have e1 : (xs ++ List.replicate kk z ++ (Builtin.zeroCells z.cells (grownCap w (m + kk) c e - (m + kk))).toList).toArray = xs.toArray ++ Builtin.zeroCells z.cells kk ++ Builtin.zeroCells z.cells (grownCap w (m + kk) c e - (m + kk)) := by
      apply Array.ext'
      simp [zeroCells_one hz1 kk]
    rw [e1] at this
    exact this
/-- append(b, make([]T, k)...) onto an owned row. -/
theorem st_app_zeros (M : Mem w0 S L w) {A : Option Addr} {m c e bytes tn kk : Nat} {z : Value} {xs : List Value} {kn : IntKind} {L' : Option Addr → Nat → List Ent} [hE : ElC P t e 1 bytes z] [htn : Und P tn (.int kn)]
    (h : ∀ A' c' w', Mem w0 S (L' A' c') w' → HQ (wpList P ops Q rest) n ((d, .slice A' (m + kk) c') :: l) w') (hx : evq l o1 = some (.slice A m c) := by with_unfolding_all rfl) (hy : evq l o2 = some (.int k (kk : Int)) := by with_unfolding_all rfl)
    (hB : RowIn L A m c xs e 1 := by infer_instance) (hR : ∀ A' c', Repl L (.row A m c xs e 1) (.row A' (m + kk) c' (xs ++ List.replicate kk z) e 1) (L' A' c') := by infer_instance)
    (hz1 : z.cells = #[z] := by with_unfolding_all rfl) (hu : z.oneCell' = true := by with_unfolding_all rfl) (hb : (m + kk) * bytes ≤ 140737488355328 ∧ m + kk ≤ maxLen := by simp only [maxLen]; omega) (hd : Nat.blt d n = true := by with_unfolding_all rfl) :
    HQ (wpList P ops Q (⟨some d, .call { callee := .builtin .append, args := #[o1, o2], argTypes := #[t, tn] }, ty, pos, after, none⟩ :: rest)) n l w := by
  obtain ⟨l1, l2, hl12⟩ := List.append_of_mem hB.h
  have M0 : Mem w0 S (.row A m c xs e 1 :: (l1 ++ l2)) w := M.front (by rw [hl12]; exact List.perm_middle)
  obtain ⟨A', c', w', hr, M'⟩ := run_append_zeros (ty := ty) (k := k) hE.h htn.h hz1 hu M0 hb.1 hb.2
  refine hq_op hd (fun a ha => by simp [execOp, ha.eval hx, ha.eval hy, resolve, invoke, builtin, hr]) (h A' c' w' (M'.front ?_))
  obtain ⟨R, p1, p2⟩ := (hR A' c').h
  refine List.Perm.trans (List.Perm.cons _ ?_) p2
  have p3 : L.Perm (.row A m c xs e 1 :: (l1 ++ l2)) := by rw [hl12]; exact List.perm_middle
  have := p1.symm.trans p3
  exact ((List.perm_cons _).1 this).symm

/-! ### A row that came in and is ours to write -/
theorem Mem.adoptRow {w : World} {A : Option Addr} {m c ty sz : Nat} {xs : List Value} (h : (Ent.row A m c xs ty sz).ok w) : Mem w (Ent.row A m c xs ty sz).blocks [.row A m c xs ty sz] w :=
  ⟨rfl, rfl, rfl, Nat.le_refl _, fun _ _ _ => rfl, by intro e he; simp at he; subst he; exact h, by intro e he k hk; simp at he; subst he; exact .inr hk, by cases A <;> simp [Ent.blocks]⟩
/-- A call that uses up a row of ours and gives back a new one. -/
theorem st_callx (M : Mem w0 S L w) {f : Nat} {A : Option Addr} {m c tr sz : Nat} {xs : List Value} {os : List Operand} {vs : List Value} {ats : Array TypeId} {ι : Type} {E : ι → Ent} {val : ι → Value} {L' : List Ent} [hf : Entered P f] (he : evargs l os = some vs)
    (hC : Calls P f vs.toArray w (fun e w' => ∃ i, e = .returned (val i) ∧ Mem w (Ent.row A m c xs tr sz).blocks [E i] w'))
    (h : ∀ i w', Mem w0 S (E i :: L') w' → HQ (wpList P ops Q rest) n ((d, val i) :: l) w')
    (hD : Drop L (.row A m c xs tr sz) L' := by infer_instance) (hd : Nat.blt d n = true := by with_unfolding_all rfl) :
    HQ (wpList P ops Q (⟨some d, .call { callee := .value (.func f), args := os.toArray, argTypes := ats }, ty, pos, after, none⟩ :: rest)) n l w := by
  refine st_call he hC (fun e w' ⟨i, e1, N⟩ => ⟨val i, e1, h i w' ?_⟩) hd
  have M1 := M.front hD.h
  have hds := M1.dis
  rw [List.flatMap_cons, List.nodup_append] at hds
  exact M1.step (R := L') N (List.sublist_cons_self _ _) (fun k hk => M1.own _ (List.mem_cons_self ..) k hk) (fun e he k hk hT => hds.2.2 k hT k (List.mem_flatMap.2 ⟨e, he, hk⟩) rfl)

/-! ### Arrays -/
theorem st_index_agg {m e sz : Nat} {cs : List Value} {i : Nat} {ys : List Value} [hu : Und P t (.array m e)] [hs : SzC P e sz] [ha : AgC P e] (hy' : (cs.drop (i * sz)).take sz = ys) (h : HQ (wpList P ops Q rest) n ((d, .agg ys.toArray) :: l) w) (hx : evq l o1 = some (.agg cs.toArray) := by with_unfolding_all rfl) (hy : evq l o2 = some (.int k (i : Int)) := by with_unfolding_all rfl)
    (hb : i < m := by first | omega | decide) (hl : (i + 1) * sz ≤ cs.length := by first | omega | decide | (simp; done) | (simp; omega)) (hd : Nat.blt d n = true := by with_unfolding_all rfl) : HQ (wpList P ops Q (⟨some d, .index t o1 o2, ty, pos, after, none⟩ :: rest)) n l w := by
  refine hq_op hd (fun a hh => ?_) h
  have hp : (part e cs.toArray (i * sz)).run P w = .ok (.agg ys.toArray) w := by
    subst hy'
    have h1 : i * sz + sz ≤ cs.length := by rw [Nat.add_mul, Nat.one_mul] at hl; exact hl
    simp [part, run_isAgg_yes ha.h, run_sizeOf hs.h, h1]
  simp [execOp, hh.eval hx, hh.eval hy, Instr.index, asIntOf, run_underlying hu.h, hb, run_sizeOf hs.h, hp]
theorem st_arrptr {A : Addr} {m c N e : Nat} [hu : Und P t (.array N e)] (h : HQ (wpList P ops Q rest) n ((d, .pointer (some A)) :: l) w) (hx : evq l o1 = some (.slice (some A) m c) := by with_unfolding_all rfl) (hb : N ≤ m := by first | omega | decide) (hd : Nat.blt d n = true := by with_unfolding_all rfl) :
    HQ (wpList P ops Q (⟨some d, .sliceToArrayPointer t o1, ty, pos, after, none⟩ :: rest)) n l w :=
  hq_op hd (fun a hh => by
    have : ¬ m < N := by omega
    simp [execOp, hh.eval hx, Instr.arrayAt, run_underlying hu.h, this]) h
end
end Go.Proofs.Ytdgbgnkfjcbgiaa.Sx
