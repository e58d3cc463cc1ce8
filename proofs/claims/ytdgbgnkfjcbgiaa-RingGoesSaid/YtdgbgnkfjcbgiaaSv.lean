/-
  Addresses of elements, values that are built, slices: one rule an operation.
-/
import Derived.Test.YtdgbgnkfjcbgiaaSw
import Derived.Laws.MakeOwn
set_option linter.unusedVariables false
set_option linter.unusedSimpArgs false
namespace Go.Proofs.Ytdgbgnkfjcbgiaa.Sx
open Go Go.RowKit

section
variable {P : Program} {Q : Exit → Act → World → Prop} {n : Nat} {l : List (Nat × Value)} {w w0 : World} {S : List Nat} {L : List Ent} {ops : Array Oper}
variable {rest : List Oper} {d ty t t' : Nat} {pos : String} {after : Array Edge} {v : Value} {o1 o2 : Operand} {x y : Int} {k k' : IntKind}

theorem st_index_arr' {g o m e sz : Nat} (hu : P.underlying t = some (.array m e)) (hs : sizeP P e = some sz) (hx : evq l o1 = some (.pointer (some ⟨g, o, none⟩))) (hy : evq l o2 = some (.int k x)) (hb : 0 ≤ x ∧ x < m) (hd : Nat.blt d n = true)
    (h : HQ (wpList P ops Q rest) n ((d, .pointer (some ⟨g, o + x.toNat * sz, none⟩)) :: l) w) : HQ (wpList P ops Q (⟨some d, .indexAddr t o1 o2, ty, pos, after, none⟩ :: rest)) n l w :=
  hq_op hd (fun a ha => by
    simp [execOp, ha.eval hx, ha.eval hy, Instr.indexAt, asIntOf, run_underlying hu, Instr.sureAddr, hb, run_sizeOf hs, addr_add]) h
theorem st_index_arr {g o m e sz : Nat}  [hu : Und P t (.array m e)] [hs : SzC P e sz] (h : HQ (wpList P ops Q rest) n ((d, .pointer (some ⟨g, o + x.toNat * sz, none⟩)) :: l) w) (hx : evq l o1 = some (.pointer (some ⟨g, o, none⟩)) := by with_unfolding_all rfl) (hy : evq l o2 = some (.int k x) := by with_unfolding_all rfl) (hb : 0 ≤ x ∧ x < m := by first | omega | decide) (hd : Nat.blt d n = true := by with_unfolding_all rfl)
    : HQ (wpList P ops Q (⟨some d, .indexAddr t o1 o2, ty, pos, after, none⟩ :: rest)) n l w :=
  st_index_arr' hu.h hs.h hx hy hb hd h
theorem st_index_slice' {A : Option Addr} {m c e sz : Nat} (hu : P.underlying t = some (.slice e)) (hs : sizeP P e = some sz) (hx : evq l o1 = some (.slice A m c)) (hy : evq l o2 = some (.int k x)) (hb : 0 ≤ x ∧ x < m) (hA : A.isSome = true)
    (hd : Nat.blt d n = true)
    (h : HQ (wpList P ops Q rest) n ((d, .pointer (A.map (·.add (x.toNat * sz)))) :: l) w) : HQ (wpList P ops Q (⟨some d, .indexAddr t o1 o2, ty, pos, after, none⟩ :: rest)) n l w :=
  hq_op hd (fun a ha => by
    cases A with
    | none => cases hA
    | some ad => simp [execOp, ha.eval hx, ha.eval hy, Instr.indexAt, asIntOf, run_underlying hu, Instr.sureAddr, hb, run_sizeOf hs]) h
theorem st_index_slice {A : Option Addr} {m c e sz : Nat} (hA : A.isSome = true) [hu : Und P t (.slice e)] [hs : SzC P e sz] (h : HQ (wpList P ops Q rest) n ((d, .pointer (A.map (·.add (x.toNat * sz)))) :: l) w) (hx : evq l o1 = some (.slice A m c) := by with_unfolding_all rfl) (hy : evq l o2 = some (.int k x) := by with_unfolding_all rfl) (hb : 0 ≤ x ∧ x < m := by first | omega | decide) (hd : Nat.blt d n = true := by with_unfolding_all rfl)
    : HQ (wpList P ops Q (⟨some d, .indexAddr t o1 o2, ty, pos, after, none⟩ :: rest)) n l w :=
  st_index_slice' hu.h hs.h hx hy hb hA hd h
/-- The same at an index that is told. -/
theorem st_at' {A : Option Addr} {m c e sz : Nat} (i : Nat) (hu : P.underlying t = some (.slice e)) (hs : sizeP P e = some sz) (hx : evq l o1 = some (.slice A m c)) (hy : evq l o2 = some (.int k x)) (hb : 0 ≤ x ∧ x < m ∧ x.toNat * sz = i) (hA : A.isSome = true)
    (hd : Nat.blt d n = true)
    (h : HQ (wpList P ops Q rest) n ((d, .pointer (A.map (·.add i))) :: l) w) : HQ (wpList P ops Q (⟨some d, .indexAddr t o1 o2, ty, pos, after, none⟩ :: rest)) n l w := by
  obtain ⟨h0, h1, rfl⟩ := hb
  exact st_index_slice' hu hs hx hy ⟨h0, h1⟩ hA hd h
theorem st_at {A : Option Addr} {m c e sz : Nat} (i : Nat) (hA : A.isSome = true) [hu : Und P t (.slice e)] [hs : SzC P e sz] (h : HQ (wpList P ops Q rest) n ((d, .pointer (A.map (·.add i))) :: l) w) (hx : evq l o1 = some (.slice A m c) := by with_unfolding_all rfl) (hy : evq l o2 = some (.int k x) := by with_unfolding_all rfl) (hb : 0 ≤ x ∧ x < m ∧ x.toNat * sz = i := by first | omega | decide) (hd : Nat.blt d n = true := by with_unfolding_all rfl)
    : HQ (wpList P ops Q (⟨some d, .indexAddr t o1 o2, ty, pos, after, none⟩ :: rest)) n l w :=
  st_at' i hu.h hs.h hx hy hb hA hd h
theorem st_at_arr' {g o m e sz : Nat} (i : Nat) (hu : P.underlying t = some (.array m e)) (hs : sizeP P e = some sz) (hx : evq l o1 = some (.pointer (some ⟨g, o, none⟩))) (hy : evq l o2 = some (.int k x)) (hb : 0 ≤ x ∧ x < m ∧ o + x.toNat * sz = i) (hd : Nat.blt d n = true)
    (h : HQ (wpList P ops Q rest) n ((d, .pointer (some ⟨g, i, none⟩)) :: l) w) : HQ (wpList P ops Q (⟨some d, .indexAddr t o1 o2, ty, pos, after, none⟩ :: rest)) n l w := by
  obtain ⟨h0, h1, rfl⟩ := hb
  exact st_index_arr' hu hs hx hy ⟨h0, h1⟩ hd h
theorem st_at_arr {g o m e sz : Nat} (i : Nat) [hu : Und P t (.array m e)] [hs : SzC P e sz] (h : HQ (wpList P ops Q rest) n ((d, .pointer (some ⟨g, i, none⟩)) :: l) w) (hx : evq l o1 = some (.pointer (some ⟨g, o, none⟩)) := by with_unfolding_all rfl) (hy : evq l o2 = some (.int k x) := by with_unfolding_all rfl) (hb : 0 ≤ x ∧ x < m ∧ o + x.toNat * sz = i := by first | omega | decide) (hd : Nat.blt d n = true := by with_unfolding_all rfl)
    : HQ (wpList P ops Q (⟨some d, .indexAddr t o1 o2, ty, pos, after, none⟩ :: rest)) n l w :=
  st_at_arr' i hu.h hs.h hx hy hb hd h
/-- An array's element, the array among a slice's cells. -/
theorem st_at_elt {A : Option Addr} {o m e sz : Nat} (i : Nat) (hA : A.isSome = true) [hu : Und P t (.array m e)] [hs : SzC P e sz] (h : HQ (wpList P ops Q rest) n ((d, .pointer (A.map (·.add i))) :: l) w) (hx : evq l o1 = some (.pointer (A.map (·.add o))) := by with_unfolding_all rfl) (hy : evq l o2 = some (.int k x) := by with_unfolding_all rfl)
    (hb : 0 ≤ x ∧ x < m ∧ o + x.toNat * sz = i := by first | omega | decide) (hd : Nat.blt d n = true := by with_unfolding_all rfl) : HQ (wpList P ops Q (⟨some d, .indexAddr t o1 o2, ty, pos, after, none⟩ :: rest)) n l w := by
  obtain ⟨h0, h1, rfl⟩ := hb
  cases A with
  | none => cases hA
  | some ad =>
    refine hq_op hd (fun a ha => ?_) h
    simp only [Option.map_some] at hx
    have e1 : (ad.add o).add (x.toNat * sz) = ad.add (o + x.toNat * sz) := Addr_add_add ..
    simp [execOp, ha.eval hx, ha.eval hy, Instr.indexAt, asIntOf, run_underlying hu.h, Instr.sureAddr, h0, h1, run_sizeOf hs.h, e1]
theorem View.some {A : Option Addr} {xs : List Value} (h : View w A xs) (hl : 0 < xs.length) : A.isSome = true := by
  obtain ⟨ad, rfl, _⟩ := h 0 xs[0] (by simp [hl])
  rfl

/-! ### Values that are built -/
def evps (l : List (Nat × Value)) : List (Nat × Operand) → Option (List (Nat × Value))
  | [] => some []
  | (i, o) :: ps => match evq l o, evps l ps with
    | some v, some vs => some ((i, v) :: vs)
    | _, _ => none
theorem evps_eval {a : Act} (ha : Has n l a) : ∀ {ps : List (Nat × Operand)} {vs : List (Nat × Value)}, evps l ps = some vs → (ps.map fun (i, x) => (i, a.eval x)) = vs
  | [], vs, h => by simp [evps] at h; simp [h]
  | (i, o) :: ps, vs, h => by
    simp only [evps] at h
    cases ho : evq l o with
    | none => rw [ho] at h; cases h
    | some v =>
      rw [ho] at h
      cases hp : evps l ps with
      | none => rw [hp] at h; cases h
      | some us =>
        rw [hp] at h
        simp at h
        subst h
        simp [ha.eval ho, evps_eval ha hp]

def fillL (pl : List (Nat × Nat)) : List Value → List (Nat × Value) → Option (List Value)
  | cells, [] => some cells
  | cells, (i, v) :: rest => match pl[i]? with
    | none => none
    | some (off, size) => bif v.cells.size == size && Nat.ble (off + v.cells.size) cells.length then fillL pl (splice cells off v.cells.toList) rest else none
theorem foldl_set_splice : ∀ (vs : List Value) (cs : Array Value) (off j : Nat), off + j + vs.length ≤ cs.size →
    ((vs.zipIdx j).foldl (fun (cs : Array Value) (p : Value × Nat) => cs.setIfInBounds (off + p.2) p.1) cs).toList = splice cs.toList (off + j) vs
  | [], cs, off, j, _ => by simp [splice]
  | u :: vs, cs, off, j, h => by
    simp only [List.length_cons] at h
    rw [List.zipIdx_cons, List.foldl_cons, foldl_set_splice vs _ off (j + 1) (by simp; omega)]
    simp only [Array.toList_setIfInBounds]
    rw [show off + (j + 1) = off + j + 1 from by omega, splice_cons (by simp; omega)]
theorem fill_eq (pl : List (Nat × Nat)) (place : Nat → Option (Nat × Nat)) (hp : ∀ i, place i = pl[i]?) : ∀ (parts : List (Nat × Value)) (cs ds : List Value), fillL pl cs parts = some ds → Instr.fill place cs.toArray parts = some ds.toArray
  | [], cs, ds, h => by simp [fillL] at h; simp [Instr.fill, h]
  | (i, v) :: parts, cs, ds, h => by
    simp only [fillL] at h
    simp only [Instr.fill, hp]
    cases hi : pl[i]? with
    | none => rw [hi] at h; cases h
    | some q =>
      obtain ⟨off, size⟩ := q
      rw [hi] at h
      simp only at h
      cases hc : (v.cells.size == size && Nat.ble (off + v.cells.size) cs.length) with
      | false => rw [hc] at h; cases h
      | true =>
        rw [hc] at h
        simp only [cond_true] at h
        simp only [Bool.and_eq_true, beq_iff_eq, Nat.ble_eq] at hc
        have ih := fill_eq pl place hp parts _ _ h
        have hf := foldl_set_splice v.cells.toList cs.toArray off 0 (by simp; omega)
        simp only [Nat.add_zero] at hf
        simp only [hc.1, ne_eq, not_true_eq_false, decide_false, Bool.false_or, gt_iff_lt, List.size_toArray]
        rw [if_neg (by simp; omega)]
        rw [← ih]
        congr 1
        have e : v.cells.zipIdx = (v.cells.toList.zipIdx 0).toArray := by rw [← Array.toList_zipIdx]
        rw [e]
        simp only [List.foldl_toArray]
        rw [← Array.toArray_toList (xs := List.foldl _ _ _), hf]

def structPl (P : Program) (t : Nat) : Option (List (Nat × Nat)) :=
  match P.underlying t with
  | some (.struct fs) => fs.toList.mapM fun f => (sizeP P f.type).map fun s => (f.offset, s)
  | _ => none
class PlC (P : Program) (t : Nat) (pl : outParam (List (Nat × Nat))) : Prop where h : structPl P t = some pl
theorem run_places (fs : List Field) : ∀ (pl : List (Nat × Nat)), fs.mapM (fun f => (sizeP P f.type).map fun s => (f.offset, s)) = some pl → (fs.mapM (m := Sem) fun f => do pure (f.offset, ← sizeOf f.type)).run P w = .ok pl w := by
  induction fs with
  | nil => intro pl h; simp at h; subst h; simp
  | cons f fs ih =>
    intro pl h
    rw [List.mapM_cons] at h
    cases hs : sizeP P f.type with
    | none => simp [hs] at h
    | some s =>
      simp only [hs, Option.map_some, Option.bind_eq_bind, Option.bind_some, Option.pure_def] at h
      cases hr : fs.mapM (fun f => (sizeP P f.type).map fun s => (f.offset, s)) with
      | none => rw [hr] at h; cases h
      | some ps =>
        rw [hr] at h
        simp at h
        subst h
        rw [List.mapM_cons]
        simp only [Sem.run_bind, run_sizeOf hs, Result.andThen_ok, ih ps hr, Sem.run_pure]
theorem st_build_struct' {zs cells : List Value} {pl : List (Nat × Nat)} {ps : List (Nat × Operand)} {vs : List (Nat × Value)} (hpl : structPl P t = some pl) (hz : zeroOf P t = some zs) (he : evps l ps = some vs) (hf : fillL pl zs vs = some cells) (hd : Nat.blt d n = true)
    (h : HQ (wpList P ops Q rest) n ((d, .agg cells.toArray) :: l) w) : HQ (wpList P ops Q (⟨some d, .build t ps.toArray, ty, pos, after, none⟩ :: rest)) n l w := by
  refine hq_op hd (fun a ha => ?_) h
  have hev := evps_eval ha he
  unfold structPl at hpl
  cases hu : P.underlying t with
  | none => rw [hu] at hpl; cases hpl
  | some u =>
    rw [hu] at hpl
    cases u <;> simp at hpl
    rename_i fs
    obtain ⟨z, hz1, hz2⟩ := run_zeroValue (w := w) hz
    have hr := run_places (P := P) (w := w) fs.toList pl hpl
    have hfl := fill_eq pl (fun i => pl.toArray[i]?) (by simp) vs zs cells hf
    have hzs : z.cells = zs.toArray := by rw [← hz2]
    have hm : (fs.mapM (m := Sem) fun f => do pure (f.offset, ← sizeOf f.type)).run P w = .ok pl.toArray w := by
      rw [← Array.toArray_toList (xs := fs), List.mapM_toArray]
      simp only [Sem.run_map, hr, Result.andThen_ok]
    simp only [execOp, List.map_toArray, hev, Instr.build, Sem.run_bind, hz1, Result.andThen_ok, run_underlying hu, hm, hzs, hfl, Sem.run_pure]
theorem st_build_struct {zs cells : List Value} {pl : List (Nat × Nat)} {ps : List (Nat × Operand)} {vs : List (Nat × Value)}  [hpl : PlC P t pl] [hz : ZeC P t zs] (h : HQ (wpList P ops Q rest) n ((d, .agg cells.toArray) :: l) w) (he : evps l ps = some vs := by with_unfolding_all rfl) (hf : fillL pl zs vs = some cells := by with_unfolding_all rfl) (hd : Nat.blt d n = true := by with_unfolding_all rfl)
    : HQ (wpList P ops Q (⟨some d, .build t ps.toArray, ty, pos, after, none⟩ :: rest)) n l w :=
  st_build_struct' hpl.h hz.h he hf hd h
theorem st_build_arr' {m e sz : Nat} {zs cells : List Value} {ps : List (Nat × Operand)} {vs : List (Nat × Value)} (hu : P.underlying t = some (.array m e)) (hs : sizeP P e = some sz) (hz : zeroOf P t = some zs) (he : evps l ps = some vs)
    (hm : vs.all (fun p => Nat.blt p.1 m) = true) (hf : fillL ((List.range m).map fun i => (i * sz, sz)) zs vs = some cells) (hd : Nat.blt d n = true)
    (h : HQ (wpList P ops Q rest) n ((d, .agg cells.toArray) :: l) w) : HQ (wpList P ops Q (⟨some d, .build t ps.toArray, ty, pos, after, none⟩ :: rest)) n l w := by
  refine hq_op hd (fun a ha => ?_) h
  have hev := evps_eval ha he
  obtain ⟨z, hz1, hz2⟩ := run_zeroValue (w := w) hz
  have hzs : z.cells = zs.toArray := by rw [← hz2]
  have hfl : Instr.fill (fun i => some (i * sz, sz)) zs.toArray vs = some cells.toArray := by
    have h1 := fill_eq ((List.range m).map fun i => (i * sz, sz)) (fun i => ((List.range m).map fun i => (i * sz, sz))[i]?) (fun _ => rfl) vs zs cells hf
    rw [← h1]
    clear h1 hf hz2 hzs hz hev he
    generalize zs.toArray = cs
    induction vs generalizing cs with
    | nil => rfl
    | cons p vs ih =>
      obtain ⟨i, v⟩ := p
      simp only [List.all_cons, Bool.and_eq_true, Nat.blt_eq] at hm
      have hi : ((List.range m).map fun i => (i * sz, sz))[i]? = some (i * sz, sz) := by simp [List.getElem?_range hm.1]
      simp only [Instr.fill, hi]
      split
      · rfl
      · exact ih (by simpa using hm.2) _
  simp only [execOp, List.map_toArray, hev, Instr.build, Sem.run_bind, hz1, Result.andThen_ok, run_underlying hu, run_sizeOf hs, hzs, hfl, Sem.run_pure]
theorem st_build_arr {m e sz : Nat} {zs cells : List Value} {ps : List (Nat × Operand)} {vs : List (Nat × Value)}  [hu : Und P t (.array m e)] [hs : SzC P e sz] [hz : ZeC P t zs] (h : HQ (wpList P ops Q rest) n ((d, .agg cells.toArray) :: l) w) (he : evps l ps = some vs := by with_unfolding_all rfl) (hm : vs.all (fun p => Nat.blt p.1 m) = true := by with_unfolding_all rfl) (hf : fillL ((List.range m).map fun i => (i * sz, sz)) zs vs = some cells := by with_unfolding_all rfl) (hd : Nat.blt d n = true := by with_unfolding_all rfl)
    : HQ (wpList P ops Q (⟨some d, .build t ps.toArray, ty, pos, after, none⟩ :: rest)) n l w :=
  st_build_arr' hu.h hs.h hz.h he hm hf hd h
def flat (vs : List (Nat × Value)) : List Value := vs.flatMap fun p => p.2.cells.toList
def rowOk (sz : Nat) : Nat → List (Nat × Value) → Bool
  | _, [] => true
  | i, p :: vs => p.1 == i && p.2.cells.size == sz && rowOk sz (i + 1) vs
theorem flat_length {sz : Nat} : ∀ (vs : List (Nat × Value)) (i : Nat), rowOk sz i vs = true → (flat vs).length = vs.length * sz
  | [], _, _ => by simp [flat]
  | p :: vs, i, h => by
    simp only [rowOk, Bool.and_eq_true, beq_iff_eq] at h
    have ih := flat_length vs (i + 1) h.2
    simp only [flat] at ih ⊢
    simp only [List.flatMap_cons, List.length_append, Array.length_toList, h.1.2, List.length_cons, ih, Nat.add_mul, Nat.one_mul]
    omega
theorem fill_row {sz : Nat} : ∀ (vs : List (Nat × Value)) (i : Nat) (done zs : List Value), rowOk sz i vs = true → done.length = i * sz → zs.length = vs.length * sz →
    Instr.fill (fun i => some (i * sz, sz)) (done ++ zs).toArray vs = some (done ++ flat vs).toArray
  | [], i, done, zs, _, _, hz => by
    have : zs = [] := List.eq_nil_of_length_eq_zero (by simpa using hz)
    simp [Instr.fill, flat, this]
  | (j, v) :: vs, i, done, zs, h, hd, hz => by
    simp only [rowOk, Bool.and_eq_true, beq_iff_eq] at h
    obtain ⟨⟨rfl, hs⟩, h2⟩ := h
    simp only [List.length_cons, Nat.add_mul, Nat.one_mul] at hz
    simp only [Instr.fill]
    rw [if_neg (by simp [hs, hd]; omega)]
    have hf := foldl_set_splice v.cells.toList (done ++ zs).toArray (j * sz) 0 (by simp [hs]; omega)
    have e : v.cells.zipIdx = (v.cells.toList.zipIdx 0).toArray := by rw [← Array.toList_zipIdx]
    rw [e]
    simp only [List.foldl_toArray]
    rw [← Array.toArray_toList (xs := List.foldl _ _ _), hf]
    have hsp : splice (done ++ zs).toArray.toList (j * sz + 0) v.cells.toList = (done ++ v.cells.toList) ++ zs.drop sz := by
      simp only [splice, Nat.add_zero, ← hd]
      simp [hs]
    rw [hsp, fill_row vs (j + 1) _ _ h2 (by simp [hd, hs, Nat.add_mul]) (by simp; omega)]
    simp [flat]
theorem st_buildSlice' (M : Mem w0 S L w) {e sz m : Nat} {zs : List Value} {ps : List (Nat × Operand)} {vs : List (Nat × Value)} (hu : P.underlying t = some (.slice e)) (hs : sizeP P e = some sz) (hz : zeroOf P e = some zs) (he : evps l ps = some vs) (hr : rowOk sz 0 vs = true)
    (hm : vs.length = m) (hsm : Nat.ble (m * sz) 1000 = true) (hsz : Nat.blt 0 sz = true) (hd : Nat.blt d n = true)
    (h : ∀ g w', Mem w0 S (.row (some ⟨g, 0, none⟩) m m (flat vs) e sz :: L) w' → HQ (wpList P ops Q rest) n ((d, .slice (some ⟨g, 0, none⟩) m m) :: l) w') :
    HQ (wpList P ops Q (⟨some d, .buildSlice t m ps.toArray, ty, pos, after, none⟩ :: rest)) n l w := by
  have hfl := flat_length vs 0 hr
  have hsm' := Nat.le_of_ble_eq_true hsm
  have hsz' : 0 < sz := by simpa [Nat.blt_eq] using hsz
  have hmm : m ≤ m * sz := Nat.le_mul_of_pos_right _ hsz'
  have M1 := M.alloc (flat vs) e
  have M2 : Mem w0 S (.row (some ⟨w.heap.size, 0, none⟩) m m (flat vs) e sz :: L) _ := Mem.toRow (ys := []) (n := m) (cap := m) (sz := sz) (by simpa using M1) (by rw [hfl, hm]) (by simp [hfl, hm]) (Nat.le_refl _) (by simp only [maxLen]; omega)
  refine hq_op hd (fun a ha => ?_) (h _ _ M2)
  have hev := evps_eval ha he
  obtain ⟨z, hz1, hz2⟩ := run_zeroValue (w := w) hz
  have hn : ¬ (m * sz > 2 ^ 24) := by have : (2:Nat) ^ 24 = 16777216 := by decide
                                      omega
  have hfill : ∀ c : Array Value, c.size = m * sz → Instr.fill (fun i => some (i * sz, sz)) c vs = some (flat vs).toArray := by
    intro c hc
    have := fill_row vs 0 [] c.toList hr (by simp) (by simp [hc, hm])
    simpa using this
  by_cases h0 : m * sz = 0
  · simp [execOp, List.map_toArray, hev, Instr.buildSlice, run_underlying hu, run_sizeOf hs, h0, hfill, newRow]
  · simp [execOp, List.map_toArray, hev, Instr.buildSlice, run_underlying hu, run_sizeOf hs, h0, hz1, hfill, newRow]
    omega
theorem st_buildSlice {e sz m : Nat} {zs : List Value} {ps : List (Nat × Operand)} {vs : List (Nat × Value)} (M : Mem w0 S L w) [hu : Und P t (.slice e)] [hs : SzC P e sz] [hz : ZeC P e zs] (h : ∀ g w', Mem w0 S (.row (some ⟨g, 0, none⟩) m m (flat vs) e sz :: L) w' → HQ (wpList P ops Q rest) n ((d, .slice (some ⟨g, 0, none⟩) m m) :: l) w') (he : evps l ps = some vs := by with_unfolding_all rfl) (hr : rowOk sz 0 vs = true := by with_unfolding_all rfl) (hm : vs.length = m := by with_unfolding_all rfl) (hsm : Nat.ble (m * sz) 1000 = true := by with_unfolding_all rfl) (hsz : Nat.blt 0 sz = true := by with_unfolding_all rfl) (hd : Nat.blt d n = true := by with_unfolding_all rfl)
    :
    HQ (wpList P ops Q (⟨some d, .buildSlice t m ps.toArray, ty, pos, after, none⟩ :: rest)) n l w :=
  st_buildSlice' M hu.h hs.h hz.h he hr hm hsm hsz hd h
/-! ### Slices -/
theorem run_bound {i : Int} {y : Nat} {c : BoundsCode} (h : 0 ≤ i ∧ i ≤ y) : (Instr.sliceBound (.int k i) y c).run P w = .ok i.toNat w := by
  simp [Instr.sliceBound, asIntOf, h]
theorem st_slice_hi' {A : Option Addr} {m c e sz : Nat} (hu : P.underlying t = some (.slice e)) (hs : sizeP P e = some sz) (hx : evq l o1 = some (.slice A m c)) (hy : evq l o2 = some (.int k x)) (hb : 0 ≤ x ∧ x ≤ c) (hd : Nat.blt d n = true)
    (h : HQ (wpList P ops Q rest) n ((d, .slice (cutA A c 0 sz) x.toNat c) :: l) w) : HQ (wpList P ops Q (⟨some d, .slice t o1 none (some o2) none, ty, pos, after, none⟩ :: rest)) n l w :=
  hq_op hd (fun a ha => by
    simp [execOp, ha.eval hx, ha.eval hy, Instr.sliceAt, Instr.slice, Instr.sliceBounds, run_underlying hu, run_bound hb, run_sizeOf hs, cutA]) h
theorem st_slice_hi {A : Option Addr} {m c e sz : Nat}  [hu : Und P t (.slice e)] [hs : SzC P e sz] (h : HQ (wpList P ops Q rest) n ((d, .slice (cutA A c 0 sz) x.toNat c) :: l) w) (hx : evq l o1 = some (.slice A m c) := by with_unfolding_all rfl) (hy : evq l o2 = some (.int k x) := by with_unfolding_all rfl) (hb : 0 ≤ x ∧ x ≤ c := by first | omega | decide) (hd : Nat.blt d n = true := by with_unfolding_all rfl)
    : HQ (wpList P ops Q (⟨some d, .slice t o1 none (some o2) none, ty, pos, after, none⟩ :: rest)) n l w :=
  st_slice_hi' hu.h hs.h hx hy hb hd h
theorem st_slice_lo' {A : Option Addr} {m c e sz : Nat} (hu : P.underlying t = some (.slice e)) (hs : sizeP P e = some sz) (hx : evq l o1 = some (.slice A m c)) (hy : evq l o2 = some (.int k x)) (hb : 0 ≤ x ∧ x ≤ m) (hd : Nat.blt d n = true)
    (h : HQ (wpList P ops Q rest) n ((d, .slice (cutA A c x.toNat sz) (m - x.toNat) (c - x.toNat)) :: l) w) : HQ (wpList P ops Q (⟨some d, .slice t o1 (some o2) none none, ty, pos, after, none⟩ :: rest)) n l w :=
  hq_op hd (fun a ha => by
    simp [execOp, ha.eval hx, ha.eval hy, Instr.sliceAt, Instr.slice, Instr.sliceBounds, run_underlying hu, run_bound hb, run_sizeOf hs, cutA]) h
theorem st_slice_lo {A : Option Addr} {m c e sz : Nat}  [hu : Und P t (.slice e)] [hs : SzC P e sz] (h : HQ (wpList P ops Q rest) n ((d, .slice (cutA A c x.toNat sz) (m - x.toNat) (c - x.toNat)) :: l) w) (hx : evq l o1 = some (.slice A m c) := by with_unfolding_all rfl) (hy : evq l o2 = some (.int k x) := by with_unfolding_all rfl) (hb : 0 ≤ x ∧ x ≤ m := by first | omega | decide) (hd : Nat.blt d n = true := by with_unfolding_all rfl)
    : HQ (wpList P ops Q (⟨some d, .slice t o1 (some o2) none none, ty, pos, after, none⟩ :: rest)) n l w :=
  st_slice_lo' hu.h hs.h hx hy hb hd h
theorem st_slice_both' {A : Option Addr} {m c e sz : Nat} {o3 : Operand} (hu : P.underlying t = some (.slice e)) (hs : sizeP P e = some sz) (hx : evq l o1 = some (.slice A m c)) (hy : evq l o2 = some (.int k x)) (hz : evq l o3 = some (.int k' y)) (hb2 : 0 ≤ y ∧ y ≤ c) (hb : 0 ≤ x ∧ x ≤ y) (hd : Nat.blt d n = true)
    (h : HQ (wpList P ops Q rest) n ((d, .slice (cutA A c x.toNat sz) (y.toNat - x.toNat) (c - x.toNat)) :: l) w) : HQ (wpList P ops Q (⟨some d, .slice t o1 (some o2) (some o3) none, ty, pos, after, none⟩ :: rest)) n l w :=
  hq_op hd (fun a ha => by
    have hb' : 0 ≤ x ∧ x ≤ (y.toNat : Int) := by omega
    simp [execOp, ha.eval hx, ha.eval hy, ha.eval hz, Instr.sliceAt, Instr.slice, Instr.sliceBounds, run_underlying hu, run_bound hb', run_bound hb2, run_sizeOf hs, cutA]) h
theorem st_slice_both {A : Option Addr} {m c e sz : Nat} {o3 : Operand}  [hu : Und P t (.slice e)] [hs : SzC P e sz] (h : HQ (wpList P ops Q rest) n ((d, .slice (cutA A c x.toNat sz) (y.toNat - x.toNat) (c - x.toNat)) :: l) w) (hx : evq l o1 = some (.slice A m c) := by with_unfolding_all rfl) (hy : evq l o2 = some (.int k x) := by with_unfolding_all rfl) (hz : evq l o3 = some (.int k' y) := by with_unfolding_all rfl) (hb2 : 0 ≤ y ∧ y ≤ c := by first | omega | decide) (hb : 0 ≤ x ∧ x ≤ y := by first | omega | decide) (hd : Nat.blt d n = true := by with_unfolding_all rfl)
    : HQ (wpList P ops Q (⟨some d, .slice t o1 (some o2) (some o3) none, ty, pos, after, none⟩ :: rest)) n l w :=
  st_slice_both' hu.h hs.h hx hy hz hb2 hb hd h
theorem cutA0 (A : Option Addr) (c sz : Nat) : cutA A c 0 sz = A := by
  unfold cutA
  split
  · rfl
  · cases A with
    | none => rfl
    | some a => simp [Addr.add]

class MkC (P : Program) (t e : Nat) (v : outParam Value) : Prop where h : (P.info? e).map (fun i => (i.zero, i.size, i.bytes)) = some (some v, 1, 1) ∧ v.cells = #[v]
theorem st_make' (M : Mem w0 S L w) {e : Nat} {m : Nat} (hu : P.underlying t = some (.slice e)) (hi' : (P.info? e).map (fun i => (i.zero, i.size, i.bytes)) = some (some v, 1, 1) ∧ v.cells = #[v])
    (hx : evq l o1 = some (.int k (m : Int))) (hy : evq l o2 = some (.int k' (m : Int))) (hm : m ≤ 140737488351232) (hd : Nat.blt d n = true)
    (h : ∀ g w', Mem w0 S (.row (some ⟨g, 0, none⟩) m m (List.replicate m v) e 1 :: L) w' → HQ (wpList P ops Q rest) n ((d, .slice (some ⟨g, 0, none⟩) m m) :: l) w') :
    HQ (wpList P ops Q (⟨some d, .makeSlice t o1 o2, ty, pos, after, none⟩ :: rest)) n l w := by
  obtain ⟨hi, hv⟩ := hi'
  cases hinf : P.info? e with
  | none => simp [hinf] at hi
  | some i =>
    simp only [hinf, Option.map_some, Option.some.injEq, Prod.mk.injEq] at hi
    obtain ⟨hz, hsz, hby⟩ := hi
    have hrun := run_make (P := P) w t e i v hu hinf hz k k' (m : Int) (m : Int) (by omega) (Int.le_refl _) (by rw [hby]; omega) (by omega)
    simp only [Int.toNat_natCast, hsz, Nat.mul_one] at hrun
    have hmade : madeCells v.cells m = (List.replicate m v).toArray := by
      apply Array.ext
      · simp [madeCells]
      · intro j h1 h2; simp [madeCells, hv, Nat.mod_one]
    rw [hmade] at hrun
    have M1 := M.alloc (List.replicate m v) e
    have M2 : Mem w0 S (.row (some ⟨w.heap.size, 0, none⟩) m m (List.replicate m v) e 1 :: L) _ := Mem.toRow (ys := []) (n := m) (cap := m) (sz := 1) (by simpa using M1) (by simp) (by simp) (Nat.le_refl _) (by simp only [maxLen]; omega)
    exact hq_op hd (fun a ha => by simp [execOp, ha.eval hx, ha.eval hy, hrun]) (h _ _ M2)
theorem st_make {e : Nat} {m : Nat} (M : Mem w0 S L w) [hu : Und P t (.slice e)] [hi' : MkC P t e v] (h : ∀ g w', Mem w0 S (.row (some ⟨g, 0, none⟩) m m (List.replicate m v) e 1 :: L) w' → HQ (wpList P ops Q rest) n ((d, .slice (some ⟨g, 0, none⟩) m m) :: l) w') (hx : evq l o1 = some (.int k (m : Int)) := by with_unfolding_all rfl) (hy : evq l o2 = some (.int k' (m : Int)) := by with_unfolding_all rfl) (hm : m ≤ 140737488351232 := by first | omega | decide) (hd : Nat.blt d n = true := by with_unfolding_all rfl)
    :
    HQ (wpList P ops Q (⟨some d, .makeSlice t o1 o2, ty, pos, after, none⟩ :: rest)) n l w :=
  st_make' M hu.h hi'.h hx hy hm hd h
end
end Go.Proofs.Ytdgbgnkfjcbgiaa.Sx
