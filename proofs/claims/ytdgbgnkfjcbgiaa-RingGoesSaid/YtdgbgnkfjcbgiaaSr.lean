/-
  A block that came in and is written; slices that go on within what came in.
-/
import Derived.Test.YtdgbgnkfjcbgiaaSn
set_option linter.unusedVariables false
set_option linter.unusedSimpArgs false
namespace Go.Proofs.Ytdgbgnkfjcbgiaa.Sx
open Go Go.RowKit

theorem Mem.adopt {w : World} {g : Nat} {arr : List Value} {ty : TypeId} (h : (Ent.blk g arr ty).ok w) : Mem w [g] [.blk g arr ty] w :=
  ⟨rfl, rfl, rfl, Nat.le_refl _, fun _ _ _ => rfl, by intro e he; simp at he; subst he; exact h, by intro e he k hk; simp at he; subst he; simp [Ent.blocks] at hk; subst hk; simp, by simp [Ent.blocks]⟩
/-- What is read from A on doesn't lie in block g. -/
def Far (A : Option Addr) (xs : List Value) (g : Nat) : Prop := xs = [] ∨ ∀ ad, A = some ad → ad.block ≠ g
theorem Mem.viewF {w0 w : World} {L : List Ent} {g : Nat} {A : Option Addr} {xs : List Value} (M : Mem w0 [g] L w) (h : View w0 A xs) (hF : Far A xs g) : View w A xs :=
  M.viewS h (hF.imp id fun h ad e => by simpa using h ad e)
theorem Mem.far_view {w0 w : World} {L : List Ent} {g : Nat} {arr : List Value} {tb : Nat} {A : Option Addr} {xs : List Value} (M : Mem w0 [] L w) [hB : BlkIn L g arr tb] (h : View w0 A xs) : Far A xs g := by
  cases xs with
  | nil => exact .inl rfl
  | cons x xs =>
    refine .inr fun ad e hg => ?_
    obtain ⟨ad', e', hc⟩ := h 0 x rfl
    rw [e] at e'
    injection e' with e'
    subst e'
    have h1 := World.block_lt_of_cell? w0 _ hc
    have h2 := M.own _ hB.h g (by simp [Ent.blocks])
    have hblk : (ad.add 0).block = ad.block := by unfold Addr.add; split <;> rfl
    rw [hblk, hg] at h1
    simp at h2
    omega
theorem nodup_flat {l : List Ent} {e1 e2 : Ent} (h : (l.flatMap Ent.blocks).Nodup) (h1 : e1 ∈ l) (h2 : e2 ∈ l) (hne : e1 ≠ e2) : ∀ k ∈ e1.blocks, k ∉ e2.blocks := by
  induction l with
  | nil => cases h1
  | cons x l ih =>
    rw [List.flatMap_cons, List.nodup_append] at h
    rcases List.mem_cons.1 h1 with rfl | h1'
    · rcases List.mem_cons.1 h2 with rfl | h2'
      · exact absurd rfl hne
      · exact fun k hk hk2 => h.2.2 k hk k (List.mem_flatMap.2 ⟨e2, h2', hk2⟩) rfl
    · rcases List.mem_cons.1 h2 with rfl | h2'
      · exact fun k hk hk2 => h.2.2 k hk2 k (List.mem_flatMap.2 ⟨e1, h1', hk⟩) rfl
      · exact ih h.2.1 h1' h2'
theorem Mem.far_row {w0 w : World} {S : List Nat} {L : List Ent} {g : Nat} {arr : List Value} {tb : Nat} {A : Option Addr} {m c tr sz : Nat} {xs : List Value} (M : Mem w0 S L w) [hB : BlkIn L g arr tb] (hR : Ent.row A m c xs tr sz ∈ L) : Far A xs g := by
  refine .inr fun ad e hg => ?_
  subst e
  have := nodup_flat M.dis hB.h hR (by simp) g (by simp [Ent.blocks])
  simp [Ent.blocks] at this
  exact this hg.symm

theorem Mem.okOld {w0 w : World} {L : List Ent} {e : Ent} (M : Mem w0 [] L w) (h : e.ok w0) : e.ok w :=
  Ent.ok_of_same h fun k hk => M.old k (Ent.lt h k hk) (by simp)
section
variable {P : Program} {Q : Exit → Act → World → Prop} {n : Nat} {l : List (Nat × Value)} {w w0 : World} {S : List Nat} {L : List Ent} {ops : Array Oper}
variable {rest : List Oper} {d ty t t' : Nat} {pos : String} {after : Array Edge} {v : Value} {o1 o2 : Operand}
theorem st_load_old (M : Mem w0 [] L w) {g o : Nat} {arr : List Value} {tb : TypeId} [hn : NaC P t] (h : HQ (wpList P ops Q rest) n ((d, v) :: l) w) (hx : evq l o1 = some (.pointer (some ⟨g, o, none⟩)) := by with_unfolding_all rfl) (hB : (Ent.blk g arr tb).ok w0 := by assumption) (hc : arr[o]? = some v := by with_unfolding_all rfl) (hd : Nat.blt d n = true := by with_unfolding_all rfl) :
    HQ (wpList P ops Q (⟨some d, .load t o1, ty, pos, after, none⟩ :: rest)) n l w :=
  st_loadc h (cell_blk (M.okOld hB) hc) hx hd
theorem st_loadAgg_old (M : Mem w0 [] L w) {g : Nat} {arr : List Value} {tb sz : Nat} [hn : AgC P t] [hs : SzC P t sz] (h : HQ (wpList P ops Q rest) n ((d, .agg arr.toArray) :: l) w) (hx : evq l o1 = some (.pointer (some ⟨g, 0, none⟩)) := by with_unfolding_all rfl) (hB : (Ent.blk g arr tb).ok w0 := by assumption) (hl : arr.length = sz := by with_unfolding_all rfl) (hd : Nat.blt d n = true := by with_unfolding_all rfl) :
    HQ (wpList P ops Q (⟨some d, .load t o1, ty, pos, after, none⟩ :: rest)) n l w :=
  st_loadAggV (view_blk (M.okOld hB)) h hx hl hd
end

theorem Mem.farRow {w0 w : World} {S : List Nat} {L : List Ent} (M : Mem w0 S L w) (g : Nat) (A : Option Addr) (m c : Nat) {arr : List Value} {tb tr sz : Nat} {xs : List Value} [hB : BlkIn L g arr tb] [hR : RowIn L A m c xs tr sz] : Far A xs g := M.far_row hR.h
/-- Of what is owned, a part. -/
class SubL (L' L : List Ent) : Prop where h : L'.Sublist L
instance subL0 : SubL [] [] := ⟨List.Sublist.refl _⟩
instance subLS (e : Ent) (L' L : List Ent) [h : SubL L' L] : SubL L' (e :: L) := ⟨h.h.cons _⟩
instance subLK (e : Ent) (L' L : List Ent) [h : SubL L' L] : SubL (e :: L') (e :: L) := ⟨h.h.cons_cons _⟩
theorem Mem.pick {w0 w : World} {S : List Nat} {L : List Ent} (M : Mem w0 S L w) (L' : List Ent) [h : SubL L' L] : Mem w0 S L' w :=
  ⟨M.os, M.tape, M.output, M.size, M.old, fun e he => M.ok e (h.h.subset he), fun e he => M.own e (h.h.subset he), (flatMap_sublist h.h).nodup M.dis⟩
theorem Mem.pick' {w0 w : World} {S : List Nat} {L L' : List Ent} (M : Mem w0 S L w) (h : SubL L' L := by infer_instance) : Mem w0 S L' w := M.pick L'
/-- A slice of bytes among a slice's cells. -/
structure Rw where
  A : Option Addr
  n : Nat
  c : Nat
  bs : List UInt8
instance : Inhabited Rw := ⟨⟨none, 0, 0, []⟩⟩
def Rw.v (r : Rw) : Value := .slice r.A r.n r.c
structure Rw.ok (w : World) (r : Rw) : Prop where
  view : View w r.A (r.bs.map bv)
  len : r.bs.length = r.n
  cap : r.n ≤ r.c
def u64v (v : Nat) : Value := .int .u64 (v : Int)
/-- Pairs of whole numbers, laid out. -/
def iv2 (x : Int) : Value := .int .i64 x
def prs2 (ps : List (Int × Int)) : List Value := ps.flatMap fun p => [iv2 p.1, iv2 p.2]
theorem prs2_length (ps : List (Int × Int)) : (prs2 ps).length = ps.length * 2 := by
  induction ps with
  | nil => rfl
  | cons p ps ih => simp only [prs2, List.flatMap_cons, List.length_append, List.length_cons, List.length_nil] at ih ⊢; omega
theorem prs2_get : ∀ (ps : List (Int × Int)) (j : Nat) (x : Int × Int), ps[j]? = some x → (prs2 ps)[j * 2]? = some (iv2 x.1) ∧ (prs2 ps)[j * 2 + 1]? = some (iv2 x.2)
  | y :: ps, 0, x, h => by simp at h; subst h; exact ⟨rfl, rfl⟩
  | y :: ps, j + 1, x, h => by
    have := prs2_get ps j x (by simpa using h)
    rw [show (j + 1) * 2 = j * 2 + 1 + 1 from by omega]
    simpa [prs2] using this
section
variable {P : Program} {Q : Exit → Act → World → Prop} {n : Nat} {l : List (Nat × Value)} {w w0 : World} {ops : Array Oper}
variable {rest : List Oper} {d ty t : Nat} {pos : String} {after : Array Edge} {o1 : Operand}
theorem st_field_elt {A : Option Addr} {j i off : Nat} [hf' : FoC P t i off] (hA : A.isSome = true) (h : HQ (wpList P ops Q rest) n ((d, .pointer (A.map (·.add (j + off)))) :: l) w) (hx : evq l o1 = some (.pointer (A.map (·.add j))) := by with_unfolding_all rfl) (hd : Nat.blt d n = true := by with_unfolding_all rfl) :
    HQ (wpList P ops Q (⟨some d, .fieldAddr t o1 i, ty, pos, after, none⟩ :: rest)) n l w := by
  cases A with
  | none => cases hA
  | some ad =>
    refine hq_op hd (fun a ha => ?_) h
    have hf := hf'.h
    unfold fieldOff at hf
    cases hu : P.underlying t with
    | none => rw [hu] at hf; cases hf
    | some u =>
      rw [hu] at hf
      cases u <;> simp at hf
      rename_i fs
      cases hi : fs[i]? with
      | none => rw [hi] at hf; cases hf
      | some f =>
        rw [hi] at hf
        cases hz : sizeP P f.type with
        | none => simp [hz] at hf
        | some z =>
          cases z with
          | zero => simp [hz] at hf
          | succ z =>
            simp [hz] at hf
            subst hf
            simp only [Option.map_some] at hx
            simp [execOp, ha.eval hx, Instr.fieldAt, run_underlying hu, hi, Instr.sureAddr, fieldPlace, run_sizeOf hz, Addr_add_add]
end

/-- The slice s is what is left, behind the first j, of N bytes at A. -/
structure RdAt (A : Option Addr) (N : Nat) (j : Nat) (s : Option Addr × Nat × Nat) : Prop where
  le : j ≤ N
  len : s.2.1 = N - j
  cap : s.2.1 ≤ s.2.2
  at_ : j = N ∨ s.1 = A.map (·.add j)
theorem map_add0 (A : Option Addr) : A.map (·.add 0) = A := by cases A <;> simp [Addr.add]
theorem RdAt.start (A : Option Addr) (m c : Nat) (h : m ≤ c) : RdAt A m 0 (A, m, c) := ⟨Nat.zero_le _, by simp, h, .inr (map_add0 A).symm⟩
theorem RdAt.view {w : World} {A : Option Addr} {N j : Nat} {s : Option Addr × Nat × Nat} {bs : List UInt8} (h : RdAt A N j s) (hV : View w A (bs.map bv)) (hl : bs.length = N) : View w s.1 ((bs.drop j).map bv) := by
  rcases h.at_ with e | e
  · rw [List.drop_of_length_le (by omega)]; exact View.nil _ _
  · have := hV.sub j (bs.length - j)
    rw [e, List.map_drop]
    rwa [List.take_of_length_le (by simp)] at this
theorem RdAt.far {A : Option Addr} {N j g : Nat} {s : Option Addr × Nat × Nat} {bs : List UInt8} (h : RdAt A N j s) (hF : Far A (bs.map bv) g) (hl : bs.length = N) : Far s.1 ((bs.drop j).map bv) g := by
  rcases h.at_ with e | e
  · exact .inl (by rw [List.drop_of_length_le (by omega)]; rfl)
  · rcases hF with h1 | h1
    · exact .inl (by have : bs = [] := by simpa using h1
                     subst this; simp)
    · refine .inr fun ad ea => ?_
      rw [e] at ea
      cases A with
      | none => simp at ea
      | some a =>
        simp at ea
        have := h1 a rfl
        have hblk : (a.add j).block = a.block := by unfold Addr.add; split <;> rfl
        rw [← ea, hblk]
        exact this
theorem RdAt.cut {A : Option Addr} {N j k : Nat} {s : Option Addr × Nat × Nat} (h : RdAt A N j s) (hk : j + k ≤ N) : RdAt A N (j + k) (cutA s.1 s.2.2 k 1, s.2.1 - k, s.2.2 - k) := by
  have h1 := h.len
  have h2 := h.cap
  refine ⟨hk, by dsimp only; omega, by dsimp only; omega, ?_⟩
  dsimp only
  unfold cutA
  by_cases hc : s.2.2 = k
  · left; omega
  · rw [if_neg hc]
    rcases h.at_ with e | e
    · left; omega
    · right
      rw [e, Nat.mul_one]
      cases A with
      | none => rfl
      | some a => simp [Addr_add_add]

theorem View.pre0 {w : World} {A : Option Addr} {xs zs : List Value} (h : View w A (xs ++ zs)) (ys : List Value) (e : xs = ys) : View w A ys := fun i v hv => h i v (by
    subst e
    rw [List.getElem?_append_left (List.getElem?_eq_some_iff.1 hv).1]
    exact hv)
theorem View.pre {w : World} {A : Option Addr} {bs : List UInt8} (h : View w A (bs.map bv)) (k : Nat) : View w A ((bs.take k).map bv) := by
  have := h.sub 0 k
  rwa [map_add0, List.drop_zero, ← List.map_take] at this
theorem Far.pre {A : Option Addr} {bs : List UInt8} {g : Nat} (h : Far A (bs.map bv) g) (k : Nat) : Far A ((bs.take k).map bv) g := by
  rcases h with h | h
  · left
    have : bs = [] := by simpa using h
    rw [this]; simp
  · exact .inr h

theorem bitor_256 {u y : Nat} (hu : u < 2 ^ 56) (hy : y < 256) : bitop .or .u64 ((256 * u : Nat) : Int) (y : Int) = ((256 * u + y : Nat) : Int) := by
  change IntKind.u64.wrap (((BitVec.ofInt 64 ((256 * u : Nat) : Int) ||| BitVec.ofInt 64 (y : Int) : BitVec 64).toNat : Nat) : Int) = _
  have h1 : (BitVec.ofInt 64 ((256 * u : Nat) : Int)).toNat = u <<< 8 := by
    rw [BitVec.toNat_ofInt, Nat.shiftLeft_eq]; omega
  have h2 : (BitVec.ofInt 64 (y : Int)).toNat = y := by
    rw [BitVec.toNat_ofInt]; omega
  rw [BitVec.toNat_or, h1, h2, ← Nat.shiftLeft_add_eq_or_of_lt (by omega : y < 2 ^ 8), Nat.shiftLeft_eq]
  rw [wrap_inK (by simp only [inK]; omega)]
  omega

/-! ### Regions that draw their order: '[]T{}', and what is appended to it -/
theorem setRow_self {w : World} {g : Nat} {cs : Array Value} {t : TypeId} {fr : Nat × Nat} (h : w.heap[g]? = some (.cells cs t fr)) : w.setRow g cs = w := by
  have hh : (w.setRow g cs).heap = w.heap := by
    apply Array.ext
    · simp [World.setRow]
    · intro i h1 h2
      by_cases e : i = g
      · subst e
        have h3 := setRow_heap w i cs cs t fr h
        rw [Array.getElem?_eq_getElem h1] at h3
        rw [Array.getElem?_eq_getElem h2] at h
        simp at h h3
        rw [h3, h]
      · have h3 := setRow_other w g i cs e
        rw [Array.getElem?_eq_getElem h1, Array.getElem?_eq_getElem h2] at h3
        simpa using h3
  unfold World.setRow at hh ⊢
  simp only at hh
  rw [hh]
def EmpV (B e : TypeId) : Pr := fun v w => ∃ g, v = .slice (some ⟨g, 0, none⟩) 0 0 ∧ w.heap[g]? = some (.cells #[] e (0, 0)) ∧ B ≤ g
theorem EmpV.stable (B e : TypeId) : Stable (EmpV B e) := fun v w w' ⟨g, e1, h, hb⟩ hE => ⟨g, e1, by rw [hE.block g (lt_of_some h)]; exact h, hb⟩
theorem run_append_emp {P : Program} {w : World} {t ty e sz bytes g m2 c2 : Nat} {z : Value} {B : Option Addr} {ys : List Value} (hE : Elem P t e sz bytes z) (hg : w.heap[g]? = some (.cells #[] e (0, 0))) (hV : View w B ys) (hl : ys.length = m2 * sz)
    (h1 : ∀ u ∈ ys, u.oneCell' = true) (hb : m2 * bytes ≤ 140737488355328) (h63 : m2 ≤ maxLen) :
    ∃ A' c' w', (Builtin.append_ #[t, t] ty #[.slice (some ⟨g, 0, none⟩) 0 0, .slice B m2 c2]).run P w = .ok (.slice A' m2 c') w' ∧ Ext w w' ∧ (Ent.row A' m2 c' ys e sz).ok w' ∧ ∀ k ∈ (Ent.row A' m2 c' ys e sz).blocks, k = g ∨ w.heap.size ≤ k := by
  obtain ⟨ht, hinf, hzs, hsz⟩ := hE
  have hrow0 : (Ent.row (some ⟨g, 0, none⟩) 0 0 [] e sz).ok w := ⟨by simp, .inr ⟨g, 0, #[], rfl, Nat.zero_le _, hg, Nat.le_refl _, Nat.zero_le _, by simp, by simp⟩⟩
  obtain ⟨i, hi, hz, hi1, hi2⟩ : ∃ i, P.info? e = some i ∧ i.zero = some z ∧ i.size = sz ∧ i.bytes = bytes := by
    cases h : P.info? e with
    | none => rw [h] at hinf; cases hinf
    | some i => rw [h] at hinf; simp at hinf; exact ⟨i, rfl, hinf.1, hinf.2.1, hinf.2.2⟩
  subst hi1
  subst hi2
  have h63' : m2 ≤ 9223372036854775807 := by simpa [maxLen] using h63
  cases B with
  | none =>
    have hy : ys = [] := by
      cases ys with
      | nil => rfl
      | cons u us => obtain ⟨ad, e, _⟩ := hV 0 u rfl; cases e
    subst hy
    have hm2 : m2 = 0 := by
      rcases Nat.eq_zero_or_pos m2 with h | h
      · exact h
      · have := Nat.mul_pos h hsz; simp at hl; omega
    subst hm2
    exact ⟨some ⟨g, 0, none⟩, 0, w, by simp [Builtin.append_, run_underlying ht, sizeOf, typeInfo, hi, Builtin.lenOf, Builtin.firstCells, storeCells], Below.refl _ _, hrow0, fun k hk => .inl (by simpa [Ent.blocks] using hk)⟩
  | some b =>
    have hnews : ∀ j u, ys[j]? = some u → w.cell? (b.add j) = some u := fun j u hu => by
      obtain ⟨ad, e, hc⟩ := hV j u hu
      injection e with e
      subst e
      exact hc
    by_cases hm : m2 = 0
    · subst hm
      have hn : ys = [] := List.eq_nil_of_length_eq_zero (by simpa using hl)
      subst hn
      have hr := run_append_room (P := P) w t ty e i ht hi g 0 0 #[] hg b 0 c2 [] (by simp) hnews (by simp) (by omega) (by simp)
      simp only [List.take_nil, List.drop_nil, List.append_nil, Array.toList_empty] at hr
      rw [setRow_self hg] at hr
      exact ⟨_, 0, w, hr, Below.refl _ _, hrow0, fun k hk => .inl (by simpa [Ent.blocks] using hk)⟩
    · have hr := run_append_grow (P := P) w t ty e i z ht hi hz ⟨g, 0, none⟩ 0 0 [] (by simp) (by simp) b m2 c2 ys hl hnews (by omega) (by omega) (growslice_fits (by omega) (by simpa using hb))
      simp only [Nat.zero_add] at hr
      have hge := grownCap_ge w m2 0 e
      have hcm := grownCap_le_maxLen w m2 0 e h63
      have Mr := ((Mem.refl w).nilRow e i.size).newRow (m := m2) (c := grownCap w m2 0 e) (sz := i.size) (e := e) (xs := ys) (zs := (Builtin.zeroCells z.cells (grownCap w m2 0 e - m2)).toList) hl (by
        rw [List.length_append, hl, Array.length_toList, size_zeroCells, hzs, ← Nat.add_mul]
        congr 1
        omega) hge hcm
      have e1 : (ys ++ (Builtin.zeroCells z.cells (grownCap w m2 0 e - m2)).toList).toArray = #[] ++ ys.toArray ++ Builtin.zeroCells z.cells (grownCap w m2 0 e - m2) := by
        apply Array.ext'
        simp
      rw [e1] at Mr
      exact ⟨_, _, _, hr, Mr.below, Mr.r0, fun k hk => .inr (by simp [Ent.blocks] at hk; omega)⟩
section
variable {P : Program} {ops : Array Oper} {n : Nat} {l lx : List (Nat × Value)} {w : World} {E : List (Nat × Value) → List (Nat × Pr) → Prop} {os : List Oper} {G : List (Nat × Pr)}
  {d ty t t' : Nat} {op : Op} {pos : String} {after : Array Edge} {g : Option (Nat × Bool)} {lz : List (Nat × Value)} {a : Act} {w' : World} {o : Oper}
theorem dag_oke {e : Nat} (ho : Obl P ops n l w ⟨some d, op, ty, pos, after, g⟩ lx G (EmpV w.heap.size e)) (h : DagW P ops n l w E os lx ((d, EmpV w.heap.size e) :: G)) : DagW P ops n l w E (⟨some d, op, ty, pos, after, g⟩ :: os) lx G := dag_ok _ (EmpV.stable _ e) ho h
theorem dag_build0 {e sz : Nat} {zs : List Value} (hE : Ext w w') (hF : Full n lz a) [hu : Und P t (.slice e)] [hs : SzC P e sz] [hz : ZeC P e zs] (hsz : Nat.blt 0 sz = true := by with_unfolding_all rfl) (hd : Nat.blt d n = true := by with_unfolding_all rfl) :
    HQ (wpList P ops (QD a w' (some d) (EmpV w.heap.size e)) [⟨some d, .buildSlice t 0 #[], ty, pos, after, none⟩]) n lz w' :=
  st_buildSlice (ps := []) (vs := []) (Mem.refl w') (fun g w1 M => hq_nil fun a' ha' => ⟨rfl, _, hF.put hd ha', M.below, g, rfl, by
    obtain ⟨g', ys, e1, hl, M'⟩ := M.toBlk
    have hy : ys = [] := by simpa [flat] using hl
    subst hy
    injection e1 with e1
    subst e1
    simpa [Ent.ok, flat] using M'.b0, by
    rcases M.own _ (List.mem_cons_self ..) g (by simp [Ent.blocks]) with h | h
    · exact Nat.le_trans hE.size h
    · cases h⟩) rfl rfl rfl (by simp) hsz hd
theorem dag_app0 {s m2 c2 e sz bytes : Nat} {z : Value} {B : Option Addr} {ys : List Value} {o2 : Operand} (hE1 : Ext w w') (hF : Full n lz a) (hK : Kn ops o G a w') [hG : GIn G s (EmpV w.heap.size e)] [hE : ElC P t e sz bytes z] (hV : View w' B ys) (hy : evq lz o2 = some (.slice B m2 c2)) (hl : ys.length = m2 * sz)
    (h1 : ∀ u ∈ ys, u.oneCell' = true) (hb : m2 * bytes ≤ 140737488355328 ∧ m2 ≤ maxLen := by simp only [maxLen]; omega) (hlk : looks ops o s = true := by with_unfolding_all rfl) (hd : Nat.blt d n = true := by with_unfolding_all rfl) :
    HQ (wpList P ops (QD a w' (some d) (RowV w.heap.size m2 ys e sz)) [⟨some d, .call { callee := .builtin .append, args := #[.tmp s, o2], argTypes := #[t, t] }, ty, pos, after, none⟩]) n lz w' := by
  obtain ⟨v, hv, g, rfl, hg, hgb⟩ := hK (s, EmpV w.heap.size e) hG.h hlk
  obtain ⟨A', c', w2, hr, hE2, hV2, hbl⟩ := run_append_emp (ty := ty) (c2 := c2) hE.h hg hV hl h1 hb.1 hb.2
  refine hq_op (v := .slice A' m2 c') (w' := w2) hd (fun a ha => ?_) (hq_nil fun a' ha' => ⟨rfl, _, hF.put hd ha', hE2, A', c', rfl, hV2, fun k hk => by
    rcases hbl k hk with rfl | h
    · exact hgb
    · exact Nat.le_trans hE1.size h⟩)
  have hl' := ha.eval (x := .tmp s) (hF.look hv)
  simp [execOp, hl', ha.eval hy, resolve, invoke, builtin, hr]
end
end Go.Proofs.Ytdgbgnkfjcbgiaa.Sx
