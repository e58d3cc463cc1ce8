/-
  append, string(bytes), calls, results in memory.
-/
import Derived.Test.YtdgbgnkfjcbgiaaSv
import Derived.Laws.BytesString
import Derived.Lib.Strings
set_option linter.unusedVariables false
set_option linter.unusedSimpArgs false
namespace Go.Proofs.Ytdgbgnkfjcbgiaa.Sx
open Go Go.RowKit

section
variable {P : Program} {Q : Exit → Act → World → Prop} {n : Nat} {l : List (Nat × Value)} {w w0 : World} {S : List Nat} {L : List Ent} {ops : Array Oper}
variable {rest : List Oper} {d ty t t' : Nat} {pos : String} {after : Array Edge} {v : Value} {o1 o2 : Operand} {x y : Int} {k k' : IntKind}

theorem Mem.setRow {g : Nat} {arr arr' : List Value} {tb : TypeId} (M : Mem w0 S (.blk g arr tb :: L) w) : Mem w0 S (.blk g arr' tb :: L) (w.setRow g arr'.toArray) := by
  have hg := M.own _ (List.mem_cons_self ..) g (by simp [Ent.blocks])
  have hd := M.dis
  rw [List.flatMap_cons, List.nodup_append] at hd
  refine M.step (T := [g]) (L' := [.blk g arr' tb]) (R := L) ⟨rfl, rfl, rfl, by simp, fun k hk hT => ?_, fun e he => ?_, fun e he k hk => ?_, by simp [Ent.blocks]⟩ (List.sublist_cons_self _ _) (by simpa using hg) ?_
  · exact setRow_other w g k _ (by simpa using hT)
  · simp at he; subst he; exact setRow_heap w g _ _ tb _ M.b0
  · simp at he; subst he; simp [Ent.blocks] at hk; subst hk; exact .inr (by simp)
  · intro e he k hk hT
    simp at hT
    subst hT
    exact hd.2.2 k (by simp [Ent.blocks]) k (List.mem_flatMap.2 ⟨e, he, hk⟩) rfl

/-- A new row, behind a draw, in the place of the elder one. -/
theorem Mem.newRow {e0 : Ent} (M : Mem w0 S (e0 :: L) w) {m c sz e : Nat} {xs zs : List Value} (hx : xs.length = m * sz) (hl : (xs ++ zs).length = c * sz) (hn : m ≤ c) (hc : c ≤ maxLen) :
    Mem w0 S (.row (some ⟨w.heap.size, 0, none⟩) m c xs e sz :: L) (w.drew.alloc (.cells (xs ++ zs).toArray e)) :=
  Mem.toRow (M.drop.drew.alloc (xs ++ zs) e) hx hl hn hc

structure Elem (P : Program) (t e sz bytes : Nat) (z : Value) : Prop where
  und : P.underlying t = some (.slice e)
  info : (P.info? e).map (fun i => (i.zero, i.size, i.bytes)) = some (some z, sz, bytes)
  cells : z.cells.size = sz
  pos : 0 < sz

theorem run_append_mem {A B : Option Addr} {m c m2 c2 e sz bytes : Nat} {z : Value} {xs ys : List Value} (hE : Elem P t e sz bytes z) (M : Mem w0 S (.row A m c xs e sz :: L) w) (hV : View w B ys) (hl : ys.length = m2 * sz)
    (h1 : ∀ u ∈ ys, u.oneCell' = true) (hb : (m + m2) * bytes ≤ 140737488355328) (h63 : m + m2 ≤ maxLen) :
    ∃ A' c' w', (Builtin.append_ #[t, t] ty #[.slice A m c, .slice B m2 c2]).run P w = .ok (.slice A' (m + m2) c') w' ∧ Mem w0 S (.row A' (m + m2) c' (xs ++ ys) e sz :: L) w' := by
  obtain ⟨ht, hinf, hzs, hsz⟩ := hE
  obtain ⟨i, hi, hz, hi1, hi2⟩ : ∃ i, P.info? e = some i ∧ i.zero = some z ∧ i.size = sz ∧ i.bytes = bytes := by
    cases h : P.info? e with
    | none => rw [h] at hinf; cases hinf
    | some i => rw [h] at hinf; simp at hinf; exact ⟨i, rfl, hinf.1, hinf.2.1, hinf.2.2⟩
  subst hi1
  subst hi2
  have hrow := M.r0
  have hcap := Ent.cap_le hrow
  have hxs := Ent.len hrow
  have h63' : m + m2 ≤ 9223372036854775807 := by simpa [maxLen] using h63
  cases B with
  | none =>
    have hy : ys = [] := by
      cases ys with
      | nil => rfl
      | cons u us => obtain ⟨ad, e, _⟩ := hV 0 u rfl; cases e
    subst hy
    have hm2 : m2 = 0 := by
      rcases Nat.eq_zero_or_pos m2 with h | h
      · exact h
      · have := Nat.mul_pos h hsz; simp at hl; omega
    subst hm2
    refine ⟨A, c, w, ?_, by simpa using M⟩
    cases A <;> simp [Builtin.append_, run_underlying ht, sizeOf, typeInfo, hi, Builtin.lenOf, Builtin.firstCells, hcap.1, storeCells]
  | some b =>
    have hnews : ∀ j u, ys[j]? = some u → w.cell? (b.add j) = some u := fun j u hu => by
      obtain ⟨ad, e, hc⟩ := hV j u hu
      injection e with e
      subst e
      exact hc
    have hlen : (xs ++ ys).length = (m + m2) * i.size := by rw [List.length_append, hxs, hl, Nat.add_mul]
    have new : ∀ old, old < m + m2 → Mem w0 S (.row (some ⟨w.heap.size, 0, none⟩) (m + m2) (grownCap w (m + m2) old e) (xs ++ ys) e i.size :: L)
        (w.drew.alloc (.cells (xs.toArray ++ ys.toArray ++ Builtin.zeroCells z.cells (grownCap w (m + m2) old e - (m + m2))) e)) := by
      intro old ho
      have hge := grownCap_ge w (m + m2) old e
      have hcm := grownCap_le_maxLen w (m + m2) old e h63
      have := M.newRow (m := m + m2) (c := grownCap w (m + m2) old e) (sz := i.size) (e := e) (xs := xs ++ ys) (zs := (Builtin.zeroCells z.cells (grownCap w (m + m2) old e - (m + m2))).toList) hlen (by
        rw [List.length_append, hlen, Array.length_toList, size_zeroCells, hzs, ← Nat.add_mul]
        congr 1
        omega) hge hcm
      have e1 : (xs ++ ys ++ (Builtin.zeroCells z.cells (grownCap w (m + m2) old e - (m + m2))).toList).toArray = xs.toArray ++ ys.toArray ++ Builtin.zeroCells z.cells (grownCap w (m + m2) old e - (m + m2)) := by
        apply Array.ext'
        simp
      rw [e1] at this
      exact this
    cases A with
    | none =>
      have h0 : m = 0 ∧ c = 0 := by
        rcases hrow.2 with ⟨h1, h2⟩ | ⟨g, cc, cur, hv, _⟩
        · injection h1 with _ _ h3; exact ⟨h2, h3⟩
        · injection hv with h; cases h
      obtain ⟨rfl, rfl⟩ := h0
      have hx : xs = [] := List.eq_nil_of_length_eq_zero (by simpa using hxs)
      subst hx
      by_cases hm : m2 = 0
      · subst hm
        have hn : ys = [] := List.eq_nil_of_length_eq_zero (by simpa using hl)
        subst hn
        exact ⟨none, 0, w, by simp [Builtin.append_, run_underlying ht, sizeOf, typeInfo, hi, Builtin.lenOf, Builtin.firstCells, loadCells, loadCellsFrom], by simpa using M⟩
      · have hr := run_append_nil (P := P) w t ty e i z ht hi hz b m2 c2 ys hl hnews (by omega) (by omega) (by have h := hb; simp only [Nat.zero_add] at h; omega)
        have hn := new 0 (by omega)
        simp only [Nat.zero_add, List.nil_append, Array.empty_append] at hn ⊢
        exact ⟨_, _, _, hr, hn⟩
    | some a =>
      obtain ⟨g, more, rfl, hlm, Mb⟩ := M.toBlk
      by_cases hroom : m + m2 ≤ c
      · have hr := run_append_room (P := P) w t ty e i ht hi g m c (xs ++ more).toArray Mb.b0 b m2 c2 ys hl hnews h1 hroom (by
          have := Nat.mul_le_mul_right i.size hroom
          simp only [List.size_toArray, hlm]
          rw [hl, ← Nat.add_mul]; exact this)
        refine ⟨_, _, _, hr, ?_⟩
        have e1 : (List.take (m * i.size) (xs ++ more).toArray.toList ++ ys ++ List.drop (m * i.size + ys.length) (xs ++ more).toArray.toList) = (xs ++ ys) ++ more.drop ys.length := by
          simp only [← hxs]
          simp
        rw [e1]
        exact Mem.toRow (Mb.setRow (arr' := xs ++ ys ++ more.drop ys.length)) hlen (by
          have h2 := Nat.mul_le_mul_right i.size hroom
          have h3 : xs.length + more.length = c * i.size := by simpa using hlm
          have h4 : (m + m2) * i.size = m * i.size + m2 * i.size := Nat.add_mul ..
          rw [List.length_append, hlen, List.length_drop]
          omega) hroom hcap.2
      · have holds : ∀ j u, xs[j]? = some u → w.cell? ((⟨g, 0, none⟩ : Addr).add j) = some u := World.ownsRow.cells hrow (by simp [Value.ownBlock])
        have hr := run_append_grow (P := P) w t ty e i z ht hi hz ⟨g, 0, none⟩ m c xs hxs holds b m2 c2 ys hl hnews (by omega) (by omega) (growslice_fits (by omega) hb)
        exact ⟨_, _, _, hr, new c (by omega)⟩

theorem st_append' {A B : Option Addr} {m c m2 c2 e sz bytes : Nat} {z : Value} {xs ys : List Value} (hE : Elem P t e sz bytes z) (M : Mem w0 S (.row A m c xs e sz :: L) w) (hV : View w B ys) (hx : evq l o1 = some (.slice A m c)) (hy : evq l o2 = some (.slice B m2 c2))
    (hl : ys.length = m2 * sz) (h1 : ∀ u ∈ ys, u.oneCell' = true) (hb : (m + m2) * bytes ≤ 140737488355328 ∧ m + m2 ≤ maxLen) (hd : Nat.blt d n = true)
    (h : ∀ A' c' w', Mem w0 S (.row A' (m + m2) c' (xs ++ ys) e sz :: L) w' → HQ (wpList P ops Q rest) n ((d, .slice A' (m + m2) c') :: l) w') :
    HQ (wpList P ops Q (⟨some d, .call { callee := .builtin .append, args := #[o1, o2], argTypes := #[t, t] }, ty, pos, after, none⟩ :: rest)) n l w := by
  obtain ⟨A', c', w', hr, M'⟩ := run_append_mem (ty := ty) (c2 := c2) hE M hV hl h1 hb.1 hb.2
  exact hq_op hd (fun a ha => by simp [execOp, ha.eval hx, ha.eval hy, resolve, invoke, builtin, hr]) (h _ _ _ M')

class ElC (P : Program) (t : Nat) (e sz bytes : outParam Nat) (z : outParam Value) : Prop where h : Elem P t e sz bytes z
theorem st_append (M : Mem w0 S L w) {A B : Option Addr} {m c m2 c2 e sz bytes : Nat} {z : Value} {xs ys : List Value} {L' : Option Addr → Nat → List Ent} [hE : ElC P t e sz bytes z] (hV : View w B ys) (h1 : ∀ u ∈ ys, u.oneCell' = true)
    (h : ∀ A' c' w', Mem w0 S (L' A' c') w' → HQ (wpList P ops Q rest) n ((d, .slice A' (m + m2) c') :: l) w') (hx : evq l o1 = some (.slice A m c) := by with_unfolding_all rfl) (hy : evq l o2 = some (.slice B m2 c2) := by with_unfolding_all rfl)
    (hB : RowIn L A m c xs e sz := by infer_instance) (hR : ∀ A' c', Repl L (.row A m c xs e sz) (.row A' (m + m2) c' (xs ++ ys) e sz) (L' A' c') := by infer_instance)
    (hl : ys.length = m2 * sz := by first | (with_unfolding_all rfl) | omega | (simp; done) | (simp; omega)) (hb : (m + m2) * bytes ≤ 140737488355328 ∧ m + m2 ≤ maxLen := by simp only [maxLen]; omega) (hd : Nat.blt d n = true := by with_unfolding_all rfl) :
    HQ (wpList P ops Q (⟨some d, .call { callee := .builtin .append, args := #[o1, o2], argTypes := #[t, t] }, ty, pos, after, none⟩ :: rest)) n l w := by
  obtain ⟨l1, l2, hl12⟩ := List.append_of_mem hB.h
  have M0 : Mem w0 S (.row A m c xs e sz :: (l1 ++ l2)) w := M.front (by rw [hl12]; exact List.perm_middle)
  refine st_append' hE.h M0 hV hx hy hl h1 hb hd (fun A' c' w' M' => h A' c' w' (M'.front ?_))
  obtain ⟨R, p1, p2⟩ := (hR A' c').h
  refine List.Perm.trans (List.Perm.cons _ ?_) p2
  have p3 : L.Perm (.row A m c xs e sz :: (l1 ++ l2)) := by rw [hl12]; exact List.perm_middle
  have := p1.symm.trans p3
  exact ((List.perm_cons _).1 this).symm

/-! ### A store among an owned slice's cells -/
theorem Mem.setRowAt {A : Option Addr} {n cap sz j : Nat} {xs : List Value} {tb : TypeId} {v : Value} (M : Mem w0 S (.row A n cap xs tb sz :: L) w) (hj : j < xs.length) (hu : v.oneCell' = true) :
    ∃ ad w', A = some ad ∧ (store (ad.add j) v).run P w = .ok () w' ∧ Mem w0 S (.row A n cap (xs.set j v) tb sz :: L) w' := by
  cases A with
  | none =>
    exfalso
    have h := M.r0
    rcases h.2 with ⟨_, h2⟩ | ⟨g, c, cur, hv', _⟩
    · have := Ent.len h
      rw [h2] at this
      omega
    · injection hv' with h1; cases h1
  | some ad =>
    have hlen := Ent.len M.r0
    have hcap := Ent.cap_le M.r0
    obtain ⟨g, ys, rfl, hl, M1⟩ := M.toBlk
    have M2 := M1.set (o := j) v
    have e : (xs ++ ys).set j v = xs.set j v ++ ys := List.set_append_left _ _ hj
    rw [e] at M2
    refine ⟨_, _, rfl, ?_, Mem.toRow M2 (by simpa using hlen) (by rw [← hl]; simp) hcap.1 hcap.2⟩
    rw [addr0]
    exact run_store_blk M1.b0 (by simp; omega) hu
theorem st_store_row (M : Mem w0 S L w) {A : Option Addr} {m c j sz : Nat} {xs : List Value} {tb : TypeId} {L' : List Ent} [hs : SzC P t 1] (h : ∀ w', Mem w0 S L' w' → HQ (wpList P ops Q rest) n l w') (hx : evq l o1 = some (.pointer (A.map (·.add j))) := by with_unfolding_all rfl) (hy : evq l o2 = some v := by with_unfolding_all rfl)
    (hB : RowOf L A m c xs tb sz := by infer_instance) (hR : Repl L (.row A m c xs tb sz) (.row A m c (xs.set j v) tb sz) L' := by infer_instance) (hv : v.cells = #[v] := by with_unfolding_all rfl) (hu : v.oneCell' = true := by with_unfolding_all rfl) (hj : j < xs.length := by first | omega | (simp; done) | (simp; omega)) :
    HQ (wpList P ops Q (⟨none, .store t o1 o2, ty, pos, after, none⟩ :: rest)) n l w := by
  obtain ⟨R, h1, h2⟩ := hR.h
  obtain ⟨ad, w', rfl, hr, M'⟩ := Mem.setRowAt (P := P) (M.front h1) hj hu
  refine hq_op0 (w' := w') (fun a ha => ?_) (h _ (M'.front h2))
  have hr' := hr
  have e0 : (ad.add j).add 0 = ad.add j := by rw [Addr_add_add]; rfl
  simp [execOp, ha.eval hx, ha.eval hy, Instr.storeAt, Instr.sureAddr, storeVar, run_sizeOf hs.h, hv, storeCells, e0, hr]

/-! ### string(bytes) -/
def bv (b : UInt8) : Value := .int .u8 (b.toNat : Int)
def bstr (bs : List UInt8) : ByteArray := ⟨bs.toArray⟩
theorem bstr_toList (bs : List UInt8) : (bstr bs).toList = bs := by rw [ByteArray.toList_eq]; rfl
theorem bytes_foldl : ∀ (bs : List UInt8) (s : ByteArray), (bs.map fun b => (b.toNat : Int)).foldl (fun (r : ByteArray) (n : Int) => r.push (UInt8.ofNat n.toNat)) s = ⟨s.data ++ bs.toArray⟩
  | [], s => by simp
  | b :: bs, s => by
    simp only [List.map_cons, List.foldl_cons]
    rw [bytes_foldl bs]
    simp [ByteArray.push]
theorem st_string' {A : Option Addr} {m c e : Nat} {bs : List UInt8} (h1 : P.underlying t = some (.slice e)) (h2 : P.underlying e = some (.int .u8)) (h3 : P.underlying t' = some .string) (hV : View w A (bs.map bv)) (hx : evq l o1 = some (.slice A m c)) (hm : bs.length = m) (hd : Nat.blt d n = true)
    (h : HQ (wpList P ops Q rest) n ((d, .string (bstr bs)) :: l) w) : HQ (wpList P ops Q (⟨some d, .convert t t' o1, ty, pos, after, none⟩ :: rest)) n l w :=
  hq_op hd (fun a ha => by
    simp only [execOp, ha.eval hx, run_convert_bytes_string w t t' e A m c h1 h2 h3, Sem.run_bind]
    cases A with
    | none =>
      have hb : bs = [] := by
        cases bs with
        | nil => rfl
        | cons b bs => obtain ⟨ad, e, _⟩ := hV 0 _ rfl; cases e
      subst hb
      simp [Conv.bytesToString, bstr]
      rfl
    | some ad =>
      have hl := run_loadCells_view (P := P) hV
      simp only [List.length_map, hm] at hl
      have e1 : (bs.map bv) = (bs.map fun b => (b.toNat : Int)).map (Value.int .u8) := by simp [bv, Function.comp_def]
      rw [e1] at hl
      rw [run_bytesToString w ad m c _ hl, bytes_foldl]
      simp [bstr]) h
theorem st_string {A : Option Addr} {m c e : Nat} {bs : List UInt8} (hV : View w A (bs.map bv)) [h1 : Und P t (.slice e)] [h2 : Und P e (.int .u8)] [h3 : Und P t' .string] (h : HQ (wpList P ops Q rest) n ((d, .string (bstr bs)) :: l) w) (hx : evq l o1 = some (.slice A m c) := by with_unfolding_all rfl) (hm : bs.length = m := by first | omega | decide) (hd : Nat.blt d n = true := by with_unfolding_all rfl)
    : HQ (wpList P ops Q (⟨some d, .convert t t' o1, ty, pos, after, none⟩ :: rest)) n l w :=
  st_string' h1.h h2.h h3.h hV hx hm hd h
/-! ### Calls -/
def evargs (l : List (Nat × Value)) : List Operand → Option (List Value)
  | [] => some []
  | o :: os => match evq l o, evargs l os with
    | some v, some vs => some (v :: vs)
    | _, _ => none
theorem evargs_eval {a : Act} (ha : Has n l a) : ∀ {os : List Operand} {vs : List Value}, evargs l os = some vs → os.map a.eval = vs
  | [], vs, h => by simp [evargs] at h; simp [h]
  | o :: os, vs, h => by
    simp only [evargs] at h
    cases ho : evq l o with
    | none => rw [ho] at h; cases h
    | some v =>
      rw [ho] at h
      cases hp : evargs l os with
      | none => rw [hp] at h; cases h
      | some us =>
        rw [hp] at h
        simp at h
        subst h
        simp [ha.eval ho, evargs_eval ha hp]
theorem st_call {f : Nat} {os : List Operand} {vs : List Value} {ats : Array TypeId} {R : Ending → World → Prop} [hf : Entered P f] (he : evargs l os = some vs)
    (hC : Calls P f vs.toArray w R) (h : ∀ e w', R e w' → ∃ v, e = .returned v ∧ HQ (wpList P ops Q rest) n ((d, v) :: l) w') (hd : Nat.blt d n = true := by with_unfolding_all rfl) :
    HQ (wpList P ops Q (⟨some d, .call { callee := .value (.func f), args := os.toArray, argTypes := ats }, ty, pos, after, none⟩ :: rest)) n l w := by
  intro a ha
  unfold wpList
  rw [if_pos (by simp [Region.wanted])]
  refine .inl ?_
  unfold Oper.wp
  have hr : (execOp a.eval ⟨some d, .call { callee := .value (.func f), args := os.toArray, argTypes := ats }, ty, pos, after, none⟩).run P w = .ok (.enter f vs.toArray) w := by
    simp [execOp, resolve, Act.eval, Deferred.ofValue, invoke, evargs_eval ha he, hf.h]
    try (have := evargs_eval ha he; simp [this, hf.h])
  rw [hr]
  exact hC.mono fun e w' hR => by
    obtain ⟨v, rfl, hq⟩ := h e w' hR
    exact hq _ (ha.put hd v)

/-- What a call gives back, with no memory of its own / with a new row. -/
abbrev RetV (w : World) (v : Value) : Ending → World → Prop := fun e w' => e = .returned v ∧ Mem w [] [] w'
abbrev RetR (w : World) (m : Nat) (xs : List Value) (ty sz : Nat) : Ending → World → Prop := fun e w' => ∃ A c, e = .returned (.slice A m c) ∧ Mem w [] [.row A m c xs ty sz] w'
theorem st_callv (M : Mem w0 S L w) {f : Nat} {os : List Operand} {vs : List Value} {ats : Array TypeId} [hf : Entered P f] (he : evargs l os = some vs) (hC : Calls P f vs.toArray w (RetV w v))
    (h : ∀ w', Mem w0 S L w' → HQ (wpList P ops Q rest) n ((d, v) :: l) w') (hd : Nat.blt d n = true := by with_unfolding_all rfl) :
    HQ (wpList P ops Q (⟨some d, .call { callee := .value (.func f), args := os.toArray, argTypes := ats }, ty, pos, after, none⟩ :: rest)) n l w :=
  st_call he hC (fun _ w' hr => ⟨v, hr.1, h w' (M.call0 hr.2)⟩) hd
theorem st_callr (M : Mem w0 S L w) {f : Nat} {os : List Operand} {vs : List Value} {ats : Array TypeId} {m tx sz : Nat} {xs : List Value} [hf : Entered P f] (he : evargs l os = some vs) (hC : Calls P f vs.toArray w (RetR w m xs tx sz))
    (h : ∀ A c w', Mem w0 S (.row A m c xs tx sz :: L) w' → HQ (wpList P ops Q rest) n ((d, .slice A m c) :: l) w') (hd : Nat.blt d n = true := by with_unfolding_all rfl) :
    HQ (wpList P ops Q (⟨some d, .call { callee := .value (.func f), args := os.toArray, argTypes := ats }, ty, pos, after, none⟩ :: rest)) n l w :=
  st_call he hC (fun _ w' ⟨A, c, e, N⟩ => ⟨_, e, h A c w' (M.call1 N)⟩) hd

/-! ### Results -/
theorem hq_end3 {fn : Func} {R : Ending → World → Prop} {t u r : Nat} {v v' v'' : Value} (hR : R (.returned (.tuple #[v, v', v''])) w) (hr : fn.results = #[.tmp t, .tmp u, .tmp r] := by with_unfolding_all rfl) (hv : lookq l t = some v := by with_unfolding_all rfl) (hv' : lookq l u = some v' := by with_unfolding_all rfl) (hv'' : lookq l r = some v'' := by with_unfolding_all rfl) : HQ (bodyPost P fn R .ret) n l w := by
  intro a ha
  have h1 := ha.at_ t v hv
  have h2 := ha.at_ u v' hv'
  have h3 := ha.at_ r v'' hv''
  exact ⟨ha.defers, _, by simp [results, hr, h1, h2, h3], hR⟩
theorem hq_end4 {fn : Func} {R : Ending → World → Prop} {t u r s : Nat} {v v' v'' v3 : Value} (hR : R (.returned (.tuple #[v, v', v'', v3])) w) (hr : fn.results = #[.tmp t, .tmp u, .tmp r, .tmp s] := by with_unfolding_all rfl) (hv : lookq l t = some v := by with_unfolding_all rfl) (hv' : lookq l u = some v' := by with_unfolding_all rfl) (hv'' : lookq l r = some v'' := by with_unfolding_all rfl) (hv3 : lookq l s = some v3 := by with_unfolding_all rfl) : HQ (bodyPost P fn R .ret) n l w := by
  intro a ha
  have h1 := ha.at_ t v hv
  have h2 := ha.at_ u v' hv'
  have h3 := ha.at_ r v'' hv''
  have h4 := ha.at_ s v3 hv3
  exact ⟨ha.defers, _, by simp [results, hr, h1, h2, h3, h4], hR⟩
theorem run_loadVar_view {p : Addr} {xs : List Value} (hn : isAggB P t = true) (hs : sizeP P t = some xs.length) (hV : View w (some p) xs) : (loadVar t p).run P w = .ok (.agg xs.toArray) w := by
  simp [loadVar, run_isAgg_yes hn, run_sizeOf hs, run_loadCells_view hV]
theorem hq_endcV {fn : Func} {R : Ending → World → Prop} {tc tt sz : Nat} {p : Addr} {xs : List Value} (hV : View w (some p) xs) (hr : fn.results = #[.cell tc tt]) [hn : AgC P tt] [hs : SzC P tt sz] (hR : R (.returned (.agg xs.toArray)) w) (hv : lookq l tc = some (.pointer (some p)) := by with_unfolding_all rfl) (hl : xs.length = sz := by with_unfolding_all rfl) : HQ (bodyPost P fn R .ret) n l w := by
  subst hl
  intro a ha
  have h1 := ha.at_ tc _ hv
  exact ⟨ha.defers, _, by simp [results, hr, h1, asAddr, run_loadVar_view hn.h hs.h hV], hR⟩
theorem hq_endc (M : Mem w0 S L w) {fn : Func} {R : Ending → World → Prop} {tc tt sz g tb : Nat} {arr : List Value} (hr : fn.results = #[.cell tc tt]) [hn : AgC P tt] [hs : SzC P tt sz] (hR : R (.returned (.agg arr.toArray)) w) (hv : lookq l tc = some (.pointer (some ⟨g, 0, none⟩)) := by with_unfolding_all rfl) (hB : BlkIn L g arr tb := by infer_instance) (hl : arr.length = sz := by with_unfolding_all rfl) : HQ (bodyPost P fn R .ret) n l w :=
  hq_endcV (view_blk (M.ok _ hB.h)) hr hR hv hl
theorem hq_endc1 (M : Mem w0 S L w) {fn : Func} {R : Ending → World → Prop} {tc tt u sz g tb : Nat} {arr : List Value} {v : Value} (hr : fn.results = #[.cell tc tt, .tmp u]) [hn : AgC P tt] [hs : SzC P tt sz] (hR : R (.returned (.tuple #[.agg arr.toArray, v])) w) (hv : lookq l tc = some (.pointer (some ⟨g, 0, none⟩)) := by with_unfolding_all rfl) (hB : BlkIn L g arr tb := by infer_instance) (hv' : lookq l u = some v := by with_unfolding_all rfl) (hl : arr.length = sz := by with_unfolding_all rfl) : HQ (bodyPost P fn R .ret) n l w := by
  subst hl
  intro a ha
  have h1 := ha.at_ tc _ hv
  have h2 := ha.at_ u _ hv'
  exact ⟨ha.defers, _, by simp [results, hr, h1, h2, asAddr, run_loadVar_view hn.h hs.h (view_blk (M.ok _ hB.h))], hR⟩
end
end Go.Proofs.Ytdgbgnkfjcbgiaa.Sx
