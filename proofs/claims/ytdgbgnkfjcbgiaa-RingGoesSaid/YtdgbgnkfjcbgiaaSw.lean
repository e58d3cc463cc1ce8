/-
  Memory's operations: one rule each.
-/
import Derived.Test.YtdgbgnkfjcbgiaaSz
set_option linter.unusedVariables false
set_option linter.unusedSimpArgs false
namespace Go.Proofs.Ytdgbgnkfjcbgiaa.Sx
open Go Go.RowKit

section
variable {P : Program} {Q : Exit → Act → World → Prop} {n : Nat} {l : List (Nat × Value)} {w w0 : World} {S : List Nat} {L : List Ent} {ops : Array Oper}
variable {rest : List Oper} {d ty t t' : Nat} {pos : String} {after : Array Edge} {v : Value} {o1 o2 : Operand} {x y : Int} {k k' : IntKind}

/-- The type's zero cells. -/
def zeroOf (P : Program) (t : TypeId) : Option (List Value) := ((P.info? t).bind (·.zero)).map (·.cells.toList)
def notAgg (P : Program) (t : TypeId) : Bool := match P.underlying t with | some (.struct _) | some (.array _ _) | none => false | _ => true
def isAggB (P : Program) (t : TypeId) : Bool := match P.underlying t with | some (.struct _) | some (.array _ _) => true | _ => false
def sizeP (P : Program) (t : TypeId) : Option Nat := (P.info? t).map (·.size)
class SzC (P : Program) (t : Nat) (sz : outParam Nat) : Prop where h : sizeP P t = some sz
class NaC (P : Program) (t : Nat) : Prop where h : notAgg P t = true
class AgC (P : Program) (t : Nat) : Prop where h : isAggB P t = true
class ZeC (P : Program) (t : Nat) (zs : outParam (List Value)) : Prop where h : zeroOf P t = some zs

theorem run_sizeOf {z : Nat} (h : sizeP P t = some z) : (sizeOf t).run P w = .ok z w := by
  unfold sizeP at h
  cases hi : P.info? t with
  | none => rw [hi] at h; cases h
  | some i =>
    rw [hi] at h
    simp at h
    simp [sizeOf, typeInfo, program, Sem.run, hi, h, pure, bind, Sem.bind]
theorem run_isAgg_no (h : notAgg P t = true) : (isAgg t).run P w = .ok false w := by
  unfold notAgg at h
  cases hu : P.underlying t with
  | none => rw [hu] at h; simp at h
  | some u =>
    rw [hu] at h
    simp only [isAgg, underlying, program, hu, pure, bind, Sem.bind, Sem.run]
    cases u <;> first | (simp at h; done) | rfl
theorem run_isAgg_yes (h : isAggB P t = true) : (isAgg t).run P w = .ok true w := by
  unfold isAggB at h
  cases hu : P.underlying t with
  | none => rw [hu] at h; simp at h
  | some u =>
    rw [hu] at h
    simp only [isAgg, underlying, program, hu, pure, bind, Sem.bind, Sem.run]
    cases u <;> first | (simp at h; done) | rfl
theorem run_zeroValue {zs : List Value} (h : zeroOf P t = some zs) : ∃ z, (zeroValue t).run P w = .ok z w ∧ z.cells.toList = zs := by
  unfold zeroOf at h
  cases hi : P.info? t with
  | none => rw [hi] at h; cases h
  | some i =>
    rw [hi] at h
    cases hz : i.zero with
    | none => simp [hz] at h
    | some z =>
      simp [hz] at h
      exact ⟨z, by simp [zeroValue, typeInfo, program, hi, hz, pure, bind, Sem.bind, Sem.run], h⟩

theorem hq_opx {op : Op} (hd : Nat.blt d n = true) {R : Value → World → Prop} (hrun : ∃ v w', (∀ a, Has n l a → (execOp a.eval ⟨some d, op, ty, pos, after, none⟩).run P w = .ok (.value v) w') ∧ R v w')
    (h : ∀ v w', R v w' → HQ (wpList P ops Q rest) n ((d, v) :: l) w') : HQ (wpList P ops Q (⟨some d, op, ty, pos, after, none⟩ :: rest)) n l w := by
  obtain ⟨v, w', h1, h2⟩ := hrun
  exact hq_op hd h1 (h v w' h2)

theorem st_box (M : Mem w0 S L w) (h : ∀ g w', Mem w0 S (.blk g v.cells.toList t :: L) w' → HQ (wpList P ops Q rest) n ((d, .pointer (some ⟨g, 0, none⟩)) :: l) w') (hx : evq l o1 = some v := by with_unfolding_all rfl) (hd : Nat.blt d n = true := by with_unfolding_all rfl) :
    HQ (wpList P ops Q (⟨some d, .box t o1, ty, pos, after, none⟩ :: rest)) n l w := by
  refine hq_op hd (v := .pointer (some ⟨w.heap.size, 0, none⟩)) (w' := w.alloc (.cells v.cells.toList.toArray t)) (fun a ha => ?_) (h _ _ (M.alloc v.cells.toList t))
  simp [execOp, ha.eval hx, Instr.box, newVar, Go.newRow]
theorem st_alloc (M : Mem w0 S L w) {arr : List Value} [hz : ZeC P t arr] (h : ∀ g w', Mem w0 S (.blk g arr t :: L) w' → HQ (wpList P ops Q rest) n ((d, .pointer (some ⟨g, 0, none⟩)) :: l) w') (hd : Nat.blt d n = true := by with_unfolding_all rfl) :
    HQ (wpList P ops Q (⟨some d, .alloc t, ty, pos, after, none⟩ :: rest)) n l w := by
  obtain ⟨z, hz1, hz2⟩ := run_zeroValue (w := w) hz.h
  refine hq_op hd (v := .pointer (some ⟨w.heap.size, 0, none⟩)) (w' := w.alloc (.cells arr.toArray t)) (fun a ha => ?_) (h _ _ (M.alloc arr t))
  subst hz2
  simp [execOp, Instr.alloc, hz1, newVar, Go.newRow]
theorem run_load_cell {p : Addr} {u : Value} (h : w.cell? p = some u) : (load p).run P w = .ok u w := by simp [h]
theorem st_loadc {p : Addr} [hn : NaC P t] (h : HQ (wpList P ops Q rest) n ((d, v) :: l) w) (hc : w.cell? p = some v) (hx : evq l o1 = some (.pointer (some p)) := by with_unfolding_all rfl) (hd : Nat.blt d n = true := by with_unfolding_all rfl) :
    HQ (wpList P ops Q (⟨some d, .load t o1, ty, pos, after, none⟩ :: rest)) n l w :=
  hq_op hd (fun a ha => by simp [execOp, ha.eval hx, Instr.loadAt, Instr.sureAddr, loadVar, run_isAgg_no hn.h, hc]) h
theorem st_load (M : Mem w0 S L w) {g o : Nat} {arr : List Value} {tb : TypeId} [hn : NaC P t] (h : HQ (wpList P ops Q rest) n ((d, v) :: l) w) (hx : evq l o1 = some (.pointer (some ⟨g, o, none⟩)) := by with_unfolding_all rfl) (hB : BlkIn L g arr tb := by infer_instance) (hc : arr[o]? = some v := by with_unfolding_all rfl) (hd : Nat.blt d n = true := by with_unfolding_all rfl) :
    HQ (wpList P ops Q (⟨some d, .load t o1, ty, pos, after, none⟩ :: rest)) n l w :=
  st_loadc h (cell_blk (M.ok _ hB.h) hc) hx hd
/-- A cell of a view. -/
theorem st_load_view {A : Option Addr} {xs : List Value} {i : Nat} [hn : NaC P t] (hV : View w A xs) (h : HQ (wpList P ops Q rest) n ((d, v) :: l) w) (hx : evq l o1 = some (.pointer (A.map (·.add i))) := by with_unfolding_all rfl) (hc : xs[i]? = some v := by with_unfolding_all rfl) (hd : Nat.blt d n = true := by with_unfolding_all rfl) :
    HQ (wpList P ops Q (⟨some d, .load t o1, ty, pos, after, none⟩ :: rest)) n l w := by
  obtain ⟨ad, rfl, hcell⟩ := hV i v hc
  exact st_loadc h hcell hx hd
theorem run_loadCellsFrom {a : Addr} : ∀ (xs : List Value) (i : Nat) (acc : Array Value), (∀ j u, xs[j]? = some u → w.cell? (a.add (i + j)) = some u) → (loadCellsFrom a i xs.length acc).run P w = .ok (acc ++ xs.toArray) w
  | [], i, acc, _ => by simp [loadCellsFrom]
  | u :: xs, i, acc, h => by
    have h0 := h 0 u rfl
    simp only [Nat.add_zero] at h0
    have ih := run_loadCellsFrom xs (i + 1) (acc.push u) (fun j u hj => by have := h (j + 1) u (by simpa using hj); rwa [show i + (j + 1) = i + 1 + j from by omega] at this)
    simp [loadCellsFrom, h0, ih]
theorem run_loadCells_view {a : Addr} {xs : List Value} (hV : View w (some a) xs) : (loadCells a xs.length).run P w = .ok xs.toArray w := by
  have := run_loadCellsFrom (P := P) (w := w) (a := a) xs 0 #[] (fun j u hj => by
    obtain ⟨ad, e, hc⟩ := hV j u hj
    injection e with e
    subst e
    simpa using hc)
  simpa [loadCells] using this

/-- A struct or an array, whole. -/
theorem st_loadAggV {p : Addr} {xs : List Value} {sz : Nat} [hn : AgC P t] [hs : SzC P t sz] (hV : View w (some p) xs) (h : HQ (wpList P ops Q rest) n ((d, .agg xs.toArray) :: l) w) (hx : evq l o1 = some (.pointer (some p)) := by with_unfolding_all rfl) (hl : xs.length = sz := by with_unfolding_all rfl) (hd : Nat.blt d n = true := by with_unfolding_all rfl) :
    HQ (wpList P ops Q (⟨some d, .load t o1, ty, pos, after, none⟩ :: rest)) n l w := by
  subst hl
  exact hq_op hd (fun a ha => by simp [execOp, ha.eval hx, Instr.loadAt, Instr.sureAddr, loadVar, run_isAgg_yes hn.h, run_sizeOf hs.h, run_loadCells_view hV]) h
theorem st_loadAgg (M : Mem w0 S L w) {g : Nat} {arr : List Value} {tb sz : Nat} [hn : AgC P t] [hs : SzC P t sz] (h : HQ (wpList P ops Q rest) n ((d, .agg arr.toArray) :: l) w) (hx : evq l o1 = some (.pointer (some ⟨g, 0, none⟩)) := by with_unfolding_all rfl) (hB : BlkIn L g arr tb := by infer_instance) (hl : arr.length = sz := by with_unfolding_all rfl) (hd : Nat.blt d n = true := by with_unfolding_all rfl) :
    HQ (wpList P ops Q (⟨some d, .load t o1, ty, pos, after, none⟩ :: rest)) n l w :=
  st_loadAggV (view_blk (M.ok _ hB.h)) h hx hl hd
theorem View.sub {A : Option Addr} {xs : List Value} (h : View w A xs) (m c : Nat) : View w (A.map (·.add m)) ((xs.drop m).take c) := fun i v hv => by
  have hv' : xs[m + i]? = some v := by
    rw [List.getElem?_take] at hv
    split at hv
    · simpa [List.getElem?_drop] using hv
    · cases hv
  obtain ⟨ad, rfl, hcell⟩ := h _ _ hv'
  exact ⟨ad.add m, rfl, by rw [Addr_add_add]; exact hcell⟩
/-- A struct or an array among a slice's cells. -/
theorem st_loadAgg_view {A : Option Addr} {xs ys : List Value} {j sz : Nat} [hn : AgC P t] [hs : SzC P t sz] (hV : View w A xs) (hA : A.isSome = true) (hy : (xs.drop j).take sz = ys) (h : HQ (wpList P ops Q rest) n ((d, .agg ys.toArray) :: l) w) (hx : evq l o1 = some (.pointer (A.map (·.add j))) := by with_unfolding_all rfl) (hl : ys.length = sz := by with_unfolding_all rfl) (hd : Nat.blt d n = true := by with_unfolding_all rfl) :
    HQ (wpList P ops Q (⟨some d, .load t o1, ty, pos, after, none⟩ :: rest)) n l w := by
  cases A with
  | none => cases hA
  | some ad =>
    have := hV.sub j sz
    rw [hy] at this
    exact st_loadAggV this h hx hl hd
theorem addr0 (g o : Nat) : (⟨g, 0, none⟩ : Addr).add o = ⟨g, o, none⟩ := by unfold Addr.add; split <;> simp_all
theorem addr_add (g o m : Nat) : (⟨g, o, none⟩ : Addr).add m = ⟨g, o + m, none⟩ := by unfold Addr.add; split <;> simp_all
theorem view_blk_at {g o c : Nat} {arr ys : List Value} {ty : TypeId} (h : (Ent.blk g arr ty).ok w) (hy : (arr.drop o).take c = ys) : View w (some ⟨g, o, none⟩) ys := by
  have := (view_blk h).sub o c
  rw [hy] at this
  simpa [addr0] using this

/-! ### Stores -/
theorem ok_set {g o : Nat} {arr : List Value} {ty : TypeId} (h : (Ent.blk g arr ty).ok w) (u : Value) : (Ent.blk g (arr.set o u) ty).ok (w.setCell ⟨g, o, none⟩ u) := by
  simp only [Ent.ok] at *
  have := heap_setCell_same w g o arr.toArray ty u h
  rw [this]
  simp

theorem Mem.set {g o : Nat} {arr : List Value} {ty : TypeId} (M : Mem w0 S (.blk g arr ty :: L) w) (u : Value) : Mem w0 S (.blk g (arr.set o u) ty :: L) (w.setCell ⟨g, o, none⟩ u) := by
  have hg := M.own _ (List.mem_cons_self ..) g (by simp [Ent.blocks])
  have hd := M.dis
  rw [List.flatMap_cons, List.nodup_append] at hd
  refine M.step (T := [g]) (L' := [.blk g (arr.set o u) ty]) (R := L) ⟨rfl, rfl, rfl, by simp, fun k hk hT => ?_, fun e he => ?_, fun e he k hk => ?_, by simp [Ent.blocks]⟩ (List.sublist_cons_self _ _) (by simpa using hg) ?_
  · exact heap_setCell_other w ⟨g, o, none⟩ k u (by simpa using hT)
  · simp at he; subst he; exact ok_set M.b0 u
  · simp at he; subst he; simp [Ent.blocks] at hk; subst hk; exact .inr (by simp)
  · intro e he k hk hT
    simp at hT
    subst hT
    exact hd.2.2 k (by simp [Ent.blocks]) k (List.mem_flatMap.2 ⟨e, he, hk⟩) rfl

theorem run_store_blk {g o : Nat} {arr : List Value} {ty : TypeId} {u : Value} (h : (Ent.blk g arr ty).ok w) (ho : o < arr.length) (hu : u.oneCell' = true) : (store ⟨g, o, none⟩ u).run P w = .ok () (w.setCell ⟨g, o, none⟩ u) := by
  have hc : w.cell? ⟨g, o, none⟩ = some arr[o] := cell_blk h (by simp [ho])
  have hf : w.frozen? ⟨g, o, none⟩ = false := frozen_of_row w g o _ ty h
  rw [run_store P w _ u _ hu, hc]
  simp [hf]

theorem st_store (M : Mem w0 S L w) {g o : Nat} {arr : List Value} {tb : TypeId} {L' : List Ent} [hs : SzC P t 1] (h : ∀ w', Mem w0 S L' w' → HQ (wpList P ops Q rest) n l w') (hx : evq l o1 = some (.pointer (some ⟨g, o, none⟩)) := by with_unfolding_all rfl) (hy : evq l o2 = some v := by with_unfolding_all rfl)
    (hB : BlkIn L g arr tb := by infer_instance) (hR : Repl L (.blk g arr tb) (.blk g (arr.set o v) tb) L' := by infer_instance) (hv : v.cells = #[v] := by with_unfolding_all rfl) (hu : v.oneCell' = true := by with_unfolding_all rfl) (ho' : Nat.blt o arr.length = true := by with_unfolding_all rfl) :
    HQ (wpList P ops Q (⟨none, .store t o1 o2, ty, pos, after, none⟩ :: rest)) n l w := by
  have ho : o < arr.length := by simpa [Nat.blt_eq] using ho'
  obtain ⟨R, h1, h2⟩ := hR.h
  have M0 := M.front h1
  refine hq_op0 (w' := w.setCell ⟨g, o, none⟩ v) (fun a ha => ?_) (h _ ((M0.set v).front h2))
  simp [execOp, ha.eval hx, ha.eval hy, Instr.storeAt, Instr.sureAddr, storeVar, run_sizeOf hs.h, hv, storeCells, addr_add, run_store_blk M0.b0 ho hu]
/-- What stands from o on is laid anew. -/
def splice (arr : List Value) (o : Nat) (vs : List Value) : List Value := arr.take o ++ vs ++ arr.drop (o + vs.length)
theorem splice_all (arr vs : List Value) (h : vs.length = arr.length) : splice arr 0 vs = vs := by simp [splice, h]
theorem splice_cons {arr : List Value} {o : Nat} {u : Value} {vs : List Value} (h : o + (vs.length + 1) ≤ arr.length) : splice (arr.set o u) (o + 1) vs = splice arr o (u :: vs) := by
  have := list_seg_step arr o u vs (by omega)
  simpa [splice] using this

theorem run_storeCells_blk {g : Nat} {tb : TypeId} : ∀ (vs : List Value) (o i : Nat) (arr : List Value) (w : World) (L : List Ent), Mem w0 S (.blk g arr tb :: L) w → o + i + vs.length ≤ arr.length → (∀ u ∈ vs, u.oneCell' = true) →
    ∃ w', (storeCells ⟨g, o, none⟩ vs i).run P w = .ok () w' ∧ Mem w0 S (.blk g (splice arr (o + i) vs) tb :: L) w'
  | [], o, i, arr, w, L, M, hl, h1 => ⟨w, by simp [storeCells], by simpa [splice] using M⟩
  | u :: vs, o, i, arr, w, L, M, hl, h1 => by
    simp only [List.length_cons] at hl
    obtain ⟨w', hr, M'⟩ := run_storeCells_blk vs o (i + 1) (arr.set (o + i) u) _ L (M.set (o := o + i) u) (by simp; omega) (fun x hx => h1 x (List.mem_cons_of_mem _ hx))
    refine ⟨w', ?_, ?_⟩
    · simp [storeCells, addr_add, run_store_blk M.b0 (show o + i < arr.length by omega) (h1 u (List.mem_cons_self ..)), hr]
    · rw [← splice_cons (by omega)]
      simpa [Nat.add_assoc] using M'

theorem st_storeAgg (M : Mem w0 S L w) {g o sz : Nat} {arr vs : List Value} {tb : TypeId} {L' : List Ent} [hs : SzC P t sz] (h : ∀ w', Mem w0 S L' w' → HQ (wpList P ops Q rest) n l w') (hx : evq l o1 = some (.pointer (some ⟨g, o, none⟩)) := by with_unfolding_all rfl) (hy : evq l o2 = some (.agg vs.toArray) := by with_unfolding_all rfl)
    (hB : BlkIn L g arr tb := by infer_instance) (hR : Repl L (.blk g arr tb) (.blk g (splice arr o vs) tb) L' := by infer_instance) (hl : vs.length = sz := by with_unfolding_all rfl) (hu : vs.all (fun u => u.oneCell') = true := by with_unfolding_all rfl) (ho : Nat.ble (o + vs.length) arr.length = true := by with_unfolding_all rfl) :
    HQ (wpList P ops Q (⟨none, .store t o1 o2, ty, pos, after, none⟩ :: rest)) n l w := by
  subst hl
  obtain ⟨R, h1, h2⟩ := hR.h
  have M0 := M.front h1
  obtain ⟨w', hr, M'⟩ := run_storeCells_blk (P := P) vs o 0 arr w R M0 (by simpa using ho) (by simpa using hu)
  simp only [Nat.add_zero] at M'
  refine hq_op0 (w' := w') (fun a ha => ?_) (h _ (M'.front h2))
  simp [execOp, ha.eval hx, ha.eval hy, Instr.storeAt, Instr.sureAddr, storeVar, run_sizeOf hs.h, Value.cells, hr]
theorem st_storeAgg0 (M : Mem w0 S L w) {g sz : Nat} {arr vs : List Value} {tb : TypeId} {L' : List Ent} [hs : SzC P t sz] (h : ∀ w', Mem w0 S L' w' → HQ (wpList P ops Q rest) n l w') (hx : evq l o1 = some (.pointer (some ⟨g, 0, none⟩)) := by with_unfolding_all rfl) (hy : evq l o2 = some (.agg vs.toArray) := by with_unfolding_all rfl)
    (hB : BlkIn L g arr tb := by infer_instance) (hR : Repl L (.blk g arr tb) (.blk g vs tb) L' := by infer_instance) (hl : vs.length = sz := by with_unfolding_all rfl) (hu : vs.all (fun u => u.oneCell') = true := by with_unfolding_all rfl) (ho : arr.length = sz := by with_unfolding_all rfl) :
    HQ (wpList P ops Q (⟨none, .store t o1 o2, ty, pos, after, none⟩ :: rest)) n l w := by
  have e := splice_all arr vs (by omega)
  exact st_storeAgg M h hx hy hB (by rw [e]; exact hR) hl hu (by simp [hl, ho])
/-! ### Addresses -/
def fieldOff (P : Program) (t i : Nat) : Option Nat :=
  match P.underlying t with
  | some (.struct fs) => match fs[i]? with
    | some f => match sizeP P f.type with
      | some (_ + 1) => some f.offset
      | _ => none
    | none => none
  | _ => none
class FoC (P : Program) (t i : Nat) (off : outParam Nat) : Prop where h : fieldOff P t i = some off
theorem st_fieldAddr {g o i off : Nat} [hf' : FoC P t i off] (h : HQ (wpList P ops Q rest) n ((d, .pointer (some ⟨g, o + off, none⟩)) :: l) w) (hx : evq l o1 = some (.pointer (some ⟨g, o, none⟩)) := by with_unfolding_all rfl) (hd : Nat.blt d n = true := by with_unfolding_all rfl) :
    HQ (wpList P ops Q (⟨some d, .fieldAddr t o1 i, ty, pos, after, none⟩ :: rest)) n l w := by
  refine hq_op hd (fun a ha => ?_) h
  have hf := hf'.h
  unfold fieldOff at hf
  cases hu : P.underlying t with
  | none => rw [hu] at hf; cases hf
  | some u =>
    rw [hu] at hf
    cases u <;> simp at hf
    rename_i fs
    cases hi : fs[i]? with
    | none => rw [hi] at hf; cases hf
    | some f =>
      rw [hi] at hf
      cases hz : sizeP P f.type with
      | none => simp [hz] at hf
      | some z =>
        cases z with
        | zero => simp [hz] at hf
        | succ z =>
          simp [hz] at hf
          subst hf
          simp [execOp, ha.eval hx, Instr.fieldAt, run_underlying hu, hi, Instr.sureAddr, fieldPlace, run_sizeOf hz, addr_add]
theorem st_fieldAddr0 {g i off : Nat} [hf : FoC P t i off] (h : HQ (wpList P ops Q rest) n ((d, .pointer (some ⟨g, off, none⟩)) :: l) w) (hx : evq l o1 = some (.pointer (some ⟨g, 0, none⟩)) := by with_unfolding_all rfl) (hd : Nat.blt d n = true := by with_unfolding_all rfl) :
    HQ (wpList P ops Q (⟨some d, .fieldAddr t o1 i, ty, pos, after, none⟩ :: rest)) n l w :=
  st_fieldAddr (by simpa using h) hx hd

end
end Go.Proofs.Ytdgbgnkfjcbgiaa.Sx
